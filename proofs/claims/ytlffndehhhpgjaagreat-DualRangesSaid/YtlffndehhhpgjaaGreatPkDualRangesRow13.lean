/- Walks and plain laws for DualRangesRow, part 13. -/
import Derived.Laws.CopyOwn
import Derived.Test.YtlffndehhhpgjaaGreatPkDualRangesRow12
namespace Go.Proofs.YtlffndehhhpgjaaGreat
set_option linter.unusedVariables false
set_option linter.unusedSimpArgs false
set_option maxRecDepth 100000
set_option maxHeartbeats 4000000
section
open Go.RowKit
def sgn(s:Bool)(N:Int):Int:=if s=true then-N else N
theorem plusQ_val{s t:Bool}{N D M E:Int}:sgn (zFT (s,N,D) (t,M,E)).1 (zFT (s,N,D) (t,M,E)).2.1=sgn s N*E+sgn t M*D:=by
 unfold zFT sgn
 cases s<;>cases t<;>simp<;>(try split)<;>(try simp)<;>grind
theorem plusQ_den{s t:Bool}{N D M E:Int}:(zFT (s,N,D) (t,M,E)).2.2=D*E:=by
 unfold zFT
 simp only[]
 split
 ·rfl
 ·split<;>rfl
theorem rat_new{Y:World}{g:Nat}(h:Y.heap[g]? =some (.cells #[.bool false,.slice none 0 0,.slice none 0 0] 37 (0,0))):
 Y.cell? ⟨g,0,none⟩=some (.bool false)∧Y.cell? ⟨g,1,none⟩=some (.slice none 0 0)∧Y.cell? ⟨g,2,none⟩=some (.slice none 0 0)∧Y.frozen? ⟨g,0,none⟩=false∧Y.frozen? ⟨g,1,none⟩=false∧Y.frozen? ⟨g,2,none⟩=false∧g<Y.heap.size:=
 ⟨by simp[World.cell?,h],by simp[World.cell?,h],by simp[World.cell?,h],by simp[World.frozen?,h],by simp[World.frozen?,h],by simp[World.frozen?,h],(Array.getElem?_eq_some_iff.1 h).1⟩
theorem zJR{Y:World}{g:Nat}{c:Array Value}{T:TypeId}{fz:Nat×Nat}(h:Y.heap[g]? =some (.cells c T fz))(o:Nat)(v:Value):(Y.setCell ⟨g,o,none⟩ v).heap[g]? =some (.cells (c.setIfInBounds o v) T fz):=by
 obtain⟨hlt,hk⟩:=Array.getElem?_eq_some_iff.1 h
 show(Y.heap.modify g _)[g]? =_
 rw[Array.getElem?_eq_getElem (by rw[Array.size_modify];exact hlt),Array.getElem_modify_self,hk]
 rfl
theorem rat_set{wa Y:World}{g N:Nat}(h:Y.heap[g]? =some (.cells #[.bool false,.slice none 0 0,.slice none 0 0] 37 (0,0)))(hg:N<=g)(hb:Below N wa Y)(u v z:Value):
 (((Y.setCell ⟨g,0,none⟩ u).setCell ⟨g,1,none⟩ v).setCell ⟨g,2,none⟩ z).cell? ⟨g,0,none⟩=some u∧(((Y.setCell ⟨g,0,none⟩ u).setCell ⟨g,1,none⟩ v).setCell ⟨g,2,none⟩ z).cell? ⟨g,1,none⟩=some v∧
 (((Y.setCell ⟨g,0,none⟩ u).setCell ⟨g,1,none⟩ v).setCell ⟨g,2,none⟩ z).cell? ⟨g,2,none⟩=some z∧Below N wa (((Y.setCell ⟨g,0,none⟩ u).setCell ⟨g,1,none⟩ v).setCell ⟨g,2,none⟩ z):=by
 have e:(((Y.setCell ⟨g,0,none⟩ u).setCell ⟨g,1,none⟩ v).setCell ⟨g,2,none⟩ z).heap[g]? =some (.cells #[u,v,z] 37 (0,0)):=by
  have h1:=zJR h 0 u
  have h2:=zJR h1 1 v
  have h3:=zJR h2 2 z
  exact h3
 exact⟨by simp[World.cell?,e],by simp[World.cell?,e],by simp[World.cell?,e],zAC (zAC (zAC hb hg 0 u) hg 1 v) hg 2 z⟩
def OrdMid(wa:World)(P1:Bool)(P2:Int)(fr fr':Act)(W:World):Prop:=
 ∃g pa pn pc qa qn qc r6 r7 r8 r9,fr'=(((((fr.put (some 6) r6).put (some 7) r7).put (some 8) r8).put (some 9) r9).put (some 5) (.pointer (some ⟨g,0,none⟩)))∧
  W.cell? ⟨g,0,none⟩=some (.bool P1)∧W.cell? ⟨g,1,none⟩=some (.slice pa pn pc)∧W.cell? ⟨g,2,none⟩=some (.slice qa qn qc)∧(pn=0↔P2=0)∧0<=P2∧Below wa.heap.size wa W
theorem rorder_c(w:World)(v u:Value)(L K:Nat)(s t:Bool)(N D M E:Int)(h:RatQ w v L s N D)(k:RatQ w u K t M E)(hL:L<=100)(hK:K<=97):
 Calls Tryz.prog 21 #[v,u] w fun e w'=>e=.returned (.int .i64 (cmpI (sgn s N*E) (sgn t M*D)))∧Below w.heap.size w w':=by
 obtain⟨na,nn,nc,da,dn,dc,rfl,hN,hD⟩:=h
 obtain⟨ma,mn,mc,ea,en,ec,rfl,hM,hE⟩:=k
 obtain⟨s0,hs⟩:=exq (w.heap.size)
 obtain⟨wa,hwa⟩:=exq ((w.alloc (.cells #[.bool s,.slice na nn nc,.slice da dn dc] 37)).alloc (.cells #[.bool t,.slice ma mn mc,.slice ea en ec] 37))
 have hba:Below w.heap.size w wa:=by rw[hwa];exact((Below.refl _ _).alloc (Nat.le_refl _) _).alloc (by simp) _
 have hs1:s0+1<wa.heap.size:=by rw[hwa,hs];simp
 have hc:∀o v,(#[Value.bool s,.slice na nn nc,.slice da dn dc]:Array Value)[o]? =some v->wa.cell? ⟨s0,o,none⟩=some v:=fun o v h=>by
  rw[hwa,hs,World.cell?_alloc_past _ _ _ (by simp),World.cell?_alloc_at _ _ _ _ rfl];exact h
 have hc2:∀o v,(#[Value.bool t,.slice ma mn mc,.slice ea en ec]:Array Value)[o]? =some v->wa.cell? ⟨s0+1,o,none⟩=some v:=fun o v h=>by
  rw[hwa,hs,World.cell?_alloc_at _ _ _ _ (by simp)];exact h
 have HS:=hid (fun(Y:World) (hY:Below wa.heap.size wa Y)=>show Y.cell? ⟨s0,0,none⟩=some (.bool s)∧Y.cell? ⟨s0,1,none⟩=some (.slice na nn nc)∧Y.cell? ⟨s0,2,none⟩=some (.slice da dn dc)∧Y.cell? ⟨s0+1,0,none⟩=some (.bool t)∧Y.cell? ⟨s0+1,1,none⟩=some (.slice ma mn mc)∧Y.cell? ⟨s0+1,2,none⟩=some (.slice ea en ec)from by
  have k0:∀o,Y.cell? ⟨s0,o,none⟩=wa.cell? ⟨s0,o,none⟩:=fun o=>hY.cell (p:=⟨s0,o,none⟩) (by show s0<_;omega)
  have k1:∀o,Y.cell? ⟨s0+1,o,none⟩=wa.cell? ⟨s0+1,o,none⟩:=fun o=>hY.cell (p:=⟨s0+1,o,none⟩) (by show s0+1<_;omega)
  exact⟨(k0 0).trans (hc 0 _ rfl),(k0 1).trans (hc 1 _ rfl),(k0 2).trans (hc 2 _ rfl),(k1 0).trans (hc2 0 _ rfl),(k1 1).trans (hc2 1 _ rfl),(k1 2).trans (hc2 2 _ rfl)⟩)
 have HBA:=hid hba
 have HT:=hid (fun(Y:World) (hY:Below wa.heap.size wa Y)=>show Calls Tryz.prog 23 #[.int .i64 (-1),.agg #[.bool t,.slice ma mn mc,.slice ea en ec]] Y (fun e w'=>∃x,e=.returned x∧RatQ w' x (3+K) (!t) M E∧Below Y.heap.size Y w')from by
  have h0:=rtimes_c Y (-1) (.agg #[.bool t,.slice ma mn mc,.slice ea en ec]) K t M E (by decide) ⟨_,_,_,_,_,_,rfl,hM.below (zAA hba hY),hE.below (zAA hba hY)⟩ (by omega)
  have e1:(t !=decide ((-1:Int)<0))=!t:=by cases t<;>rfl
  have e2:(((-1:Int).natAbs:Nat):Int)*M=M:=by simp
  rwa [e1,e2]at h0)
 have HA:=hid (fun(Y:World) (hY:Below wa.heap.size wa Y)=>show RatQ Y (.agg #[.bool s,.slice na nn nc,.slice da dn dc]) L s N D from⟨_,_,_,_,_,_,rfl,hN.below (zAA hba hY),hD.below (zAA hba hY)⟩)
 obtain⟨⟨P1,P2,P3⟩,hP⟩:∃P,P=zFT (s,N,D) (!t,M,E):=⟨_,rfl⟩
 have HP:=hid hP
 have HVAL:=hid (show sgn P1 P2=sgn s N*E-sgn t M*D from by
  have h1:=plusQ_val (s:=s) (t:=!t) (N:=N) (D:=D) (M:=M) (E:=E)
  rw[<- hP]at h1
  simp only[]at h1
  have h2:sgn (!t) M= -sgn t M:=by cases t<;>simp[sgn]
  rw[h2]at h1
  rw[h1,Int.neg_mul]
  omega)
 clear hP
 obtain⟨C,hC⟩:=exq (cmpI (sgn s N*E) (sgn t M*D))
 rw[<- hC]
 have HVC:=hid (show(P2=0->C=0)∧(P2≠0->0<=P2->P1=false->C=1)∧(P2≠0->0<=P2->P1=true->C= -1)from by
  rw[hC]
  have hval:=HVAL.out
  generalize sgn s N*E=X at hval⊢
  generalize sgn t M*D=Y at hval⊢
  unfold cmpI
  refine⟨fun h=>?_,fun h h0 e=>?_,fun h h0 e=>?_⟩
  ·subst h
   have:X=Y:=by unfold sgn at hval;split at hval<;>omega
   simp[this]
  ·subst e
   have:P2=X-Y:=by simpa[sgn]using hval
   rw[if_neg (by omega),if_neg (by omega)]
  ·subst e
   have: -P2=X-Y:=by simpa[sgn]using hval
   rw[if_pos (by omega)])
 clear hC HVAL
 clear hba hs1 hc hc2 hN hD hM hE
 go_enter Tryz.func21,Tryz.ntmps21
 go_wp2_with fail
 rw[<- hs,<- hwa]
 clear hs hwa
 refine zNO (OrdMid wa P1 P2) ?_ ?_
 ·refine zAF (fun j' X=>wAll j'=true->X.cell? ⟨s0,0,none⟩=some (.bool s)∧X.cell? ⟨s0,1,none⟩=some (.slice na nn nc)∧X.cell? ⟨s0,2,none⟩=some (.slice da dn dc)∧X.cell? ⟨s0+1,0,none⟩=some (.bool t)∧X.cell? ⟨s0+1,1,none⟩=some (.slice ma mn mc)∧X.cell? ⟨s0+1,2,none⟩=some (.slice ea en ec)) (by kernel_rfl) ?_
  have hbd:Below wa.heap.size wa wa.drew:=(Below.refl _ _).drew
  generalize wa.drew=wd at hbd⊢
  refine AnyT.tD (i:=0) (v:=.agg #[.bool s,.slice na nn nc,.slice da dn dc]) rfl rfl (by rintro w' ⟨y1,y2,y3,y4,y5,y6⟩;go_simp) (HS.out _ hbd) ?_;go_frame
  refine AnyT.tD (i:=1) (v:=.agg #[.bool t,.slice ma mn mc,.slice ea en ec]) rfl rfl (by rintro w' ⟨y1,y2,y3,y4,y5,y6⟩;go_simp) (HS.out _ hbd) ?_;go_frame
  refine AnyT.nextB (i:=2) (j:=4) (by kernel_rfl) (wpOp_of_list rfl ?_) (wpOp_of_list rfl ?_)
  ·skip
   go_wp2_with (go_at_call 23;refine(HT.out _ hbd).mono ?_;rintro e w1 ⟨vw1,rfl,⟨ta,tn,tc,tb,tm,te,rfl,ht1,ht2⟩,hbw1⟩;refine Stop.of ?_)
   refine Stop.go ?_
   have HT8:=hid (show RatQ w1 (.agg #[.bool (!t),.slice ta tn tc,.slice tb tm te]) (3+K) (!t) M E from⟨_,_,_,_,_,_,rfl,ht1,ht2⟩)
   have hbT:=zAA hbd hbw1
   clear ht1 ht2
   go_wp2
   refine⟨fun _=>HS.out _ hbT,?_⟩
   refine AnyT.nextB (i:=3) (j:=4) (by kernel_rfl) (wpOp_of_list rfl ?_) (wpOp_of_list rfl ?_)
   ·skip
    go_wp2_with (go_at_call 24;refine(zOU _ _ _ L (3+K) _ _ _ _ _ _ (HA.out _ hbT) HT8.out (by omega) (by omega)).mono ?_;rintro e w2 ⟨vw2,rfl,⟨pa,pn,pc,qa,qn,qc,rfl,hp1,hp2⟩,hbw2⟩;refine Stop.of ?_)
    refine Stop.go ?_
    have hbP:=zAA hbT hbw2
    have HPZ:=hid (show(pn=0↔P2=0)∧0<=P2 from by
     rw[<- HP.out]at hp1
     refine⟨?_,hp1.nonneg⟩
     obtain⟨_,_,_,l,e1,e2,_,_,e4,e5,e6⟩:=hp1
     cases e1
     simp only[]at e6
     rw[<- e6,zLQ e4 e5,e2])
    have HPB:=hid (show(zFT (s,N,D) (!t,M,E)).1=P1 from by rw[<- HP.out])
    clear hp1 hp2
    go_wp2
    refine⟨fun _=>HS.out _ hbP,?_⟩
    refine AnyT.nx (i:=4) rfl ?_
    go_wp2
    have hbA:=hbP.alloc hbP.size (.cells #[.bool false,.slice none 0 0,.slice none 0 0] 37)
    obtain⟨x0,x1,x2,f0,f1,f2,hlt⟩:=rat_new (World.alloc_heap_new w2 (.cells #[.bool false,.slice none 0 0,.slice none 0 0] 37))
    have hfin:=hid (fun u v z=>rat_set (World.alloc_heap_new w2 (.cells #[.bool false,.slice none 0 0,.slice none 0 0] 37)) hbP.size hbA u v z)
    refine⟨fun _=>HS.out _ hbA,?_⟩
    generalize w2.alloc (.cells #[.bool false,.slice none 0 0,.slice none 0 0] 37)=wn at*
    generalize w2.heap.size=g at*
    refine AnyT.nx (i:=5) rfl ?_
    go_wp2
    obtain⟨k0,k1,k2,k3⟩:=hfin.out (.bool (zFT (s,N,D) (!t,M,E)).1) (.slice pa pn pc) (.slice qa qn qc)
    refine⟨fun _=>HS.out _ k3,?_⟩
    refine AnyT.done (by kernel_rfl) ?_ _
    exact⟨rfl,g,pa,pn,pc,qa,qn,qc,_,_,_,_,rfl,k0.trans (congrArg (fun q=>some (Value.bool q)) HPB.out),k1,k2,HPZ.out.1,HPZ.out.2,k3⟩
   ·skip
    go_wp2
    have hbA:=hbT.alloc hbT.size (.cells #[.bool false,.slice none 0 0,.slice none 0 0] 37)
    have hnew:=World.alloc_heap_new w1 (.cells #[.bool false,.slice none 0 0,.slice none 0 0] 37)
    have HT9:=hid (show RatQ (w1.alloc (.cells #[.bool false,.slice none 0 0,.slice none 0 0] 37)) (.agg #[.bool (!t),.slice ta tn tc,.slice tb tm te]) (3+K) (!t) M E from by
     obtain⟨_,_,_,_,_,_,e,h1,h2⟩:=HT8.out
     cases e
     exact⟨_,_,_,_,_,_,rfl,h1.below ((Below.refl _ _).alloc (Nat.le_refl _) _),h2.below ((Below.refl _ _).alloc (Nat.le_refl _) _)⟩)
    have hgN:=hbT.size
    generalize w1.alloc (.cells #[.bool false,.slice none 0 0,.slice none 0 0] 37)=wn at hbA hnew HT9⊢
    obtain⟨g,hg⟩:=exq (w1.heap.size)
    rw[<- hg]at hnew hgN⊢
    clear hg HT8
    refine⟨fun _=>HS.out _ hbA,?_⟩
    refine AnyT.nx (i:=3) rfl ?_
    go_wp2_with (go_at_call 24;refine(zOU _ _ _ L (3+K) _ _ _ _ _ _ (HA.out _ hbA) HT9.out (by omega) (by omega)).mono ?_;rintro e w2 ⟨vw2,rfl,⟨pa,pn,pc,qa,qn,qc,rfl,hp1,hp2⟩,hbw2⟩;refine Stop.of ?_)
    refine Stop.go ?_
    have hbP:=zAA hbA hbw2
    have HPZ:=hid (show(pn=0↔P2=0)∧0<=P2 from by
     rw[<- HP.out]at hp1
     refine⟨?_,hp1.nonneg⟩
     obtain⟨_,_,_,l,e1,e2,_,_,e4,e5,e6⟩:=hp1
     cases e1
     simp only[]at e6
     rw[<- e6,zLQ e4 e5,e2])
    have HPB:=hid (show(zFT (s,N,D) (!t,M,E)).1=P1 from by rw[<- HP.out])
    clear hp1 hp2
    have hnew2:=(hbw2.block g (Array.getElem?_eq_some_iff.1 hnew).1).trans hnew
    obtain⟨x0,x1,x2,f0,f1,f2,hlt⟩:=rat_new hnew2
    have hfin:=hid (fun u v z=>rat_set hnew2 hgN hbP u v z)
    clear hnew2 hnew
    go_wp2
    refine⟨fun _=>HS.out _ hbP,?_⟩
    refine AnyT.nx (i:=5) rfl ?_
    go_wp2
    obtain⟨k0,k1,k2,k3⟩:=hfin.out (.bool (zFT (s,N,D) (!t,M,E)).1) (.slice pa pn pc) (.slice qa qn qc)
    refine⟨fun _=>HS.out _ k3,?_⟩
    refine AnyT.done (by kernel_rfl) ?_ _
    exact⟨rfl,g,pa,pn,pc,qa,qn,qc,_,_,_,_,rfl,k0.trans (congrArg (fun q=>some (Value.bool q)) HPB.out),k1,k2,HPZ.out.1,HPZ.out.2,k3⟩
  ·skip
   go_wp2
   have HB0:=hbd.alloc hbd.size (.cells #[.bool false,.slice none 0 0,.slice none 0 0] 37)
   have hnew:=World.alloc_heap_new wd (.cells #[.bool false,.slice none 0 0,.slice none 0 0] 37)
   have hgN:=hbd.size
   generalize wd.alloc (.cells #[.bool false,.slice none 0 0,.slice none 0 0] 37)=wn at HB0 hnew⊢
   obtain⟨g,hg⟩:=exq (wd.heap.size)
   rw[<- hg]at hnew hgN⊢
   clear hg
   refine⟨fun _=>HS.out _ HB0,?_⟩
   refine AnyT.nx (i:=2) rfl ?_
   ·skip
    go_wp2_with (go_at_call 23;refine(HT.out _ HB0).mono ?_;rintro e w1 ⟨vw1,rfl,⟨ta,tn,tc,tb,tm,te,rfl,ht1,ht2⟩,hbw1⟩;refine Stop.of ?_)
    refine Stop.go ?_
    have HT8:=hid (show RatQ w1 (.agg #[.bool (!t),.slice ta tn tc,.slice tb tm te]) (3+K) (!t) M E from⟨_,_,_,_,_,_,rfl,ht1,ht2⟩)
    have hbT:=zAA HB0 hbw1
    clear ht1 ht2
    have hnew1:=(hbw1.block g (Array.getElem?_eq_some_iff.1 hnew).1).trans hnew
    clear hnew
    go_wp2
    refine⟨fun _=>HS.out _ hbT,?_⟩
    refine AnyT.nx (i:=3) rfl ?_
    go_wp2_with (go_at_call 24;refine(zOU _ _ _ L (3+K) _ _ _ _ _ _ (HA.out _ hbT) HT8.out (by omega) (by omega)).mono ?_;rintro e w2 ⟨vw2,rfl,⟨pa,pn,pc,qa,qn,qc,rfl,hp1,hp2⟩,hbw2⟩;refine Stop.of ?_)
    refine Stop.go ?_
    have hbP:=zAA hbT hbw2
    have HPZ:=hid (show(pn=0↔P2=0)∧0<=P2 from by
     rw[<- HP.out]at hp1
     refine⟨?_,hp1.nonneg⟩
     obtain⟨_,_,_,l,e1,e2,_,_,e4,e5,e6⟩:=hp1
     cases e1
     simp only[]at e6
     rw[<- e6,zLQ e4 e5,e2])
    have HPB:=hid (show(zFT (s,N,D) (!t,M,E)).1=P1 from by rw[<- HP.out])
    clear hp1 hp2
    have hnew2:=(hbw2.block g (Array.getElem?_eq_some_iff.1 hnew1).1).trans hnew1
    obtain⟨x0,x1,x2,f0,f1,f2,hlt⟩:=rat_new hnew2
    have hfin:=hid (fun u v z=>rat_set hnew2 hgN hbP u v z)
    clear hnew2 hnew1
    go_wp2
    refine⟨fun _=>HS.out _ hbP,?_⟩
    refine AnyT.nx (i:=5) rfl ?_
    go_wp2
    obtain⟨k0,k1,k2,k3⟩:=hfin.out (.bool (zFT (s,N,D) (!t,M,E)).1) (.slice pa pn pc) (.slice qa qn qc)
    refine⟨fun _=>HS.out _ k3,?_⟩
    refine AnyT.done (by kernel_rfl) ?_ _
    exact⟨rfl,g,pa,pn,pc,qa,qn,qc,_,_,_,_,rfl,k0.trans (congrArg (fun q=>some (Value.bool q)) HPB.out),k1,k2,HPZ.out.1,HPZ.out.2,k3⟩
 ·rintro fr' W ⟨g,pa,pn,pc,qa,qn,qc,r6,r7,r8,r9,rfl,c0,c1,c2,hz,h0,hbW⟩
  have HBW:=hid (zAA HBA.out hbW)
  have HC:=hid (show(pn=0->C=0)∧(pn≠0->P1=false->C=1)∧(pn≠0->P1=true->C= -1)from
   ⟨fun h=>HVC.out.1 (hz.1 h),fun h e=>HVC.out.2.1 (fun h'=>h (hz.2 h')) h0 e,fun h e=>HVC.out.2.2 (fun h'=>h (hz.2 h')) h0 e⟩)
  clear hz hbW h0 HVC HP
  go_frame
  by_cases hp:pn=0
  ·have hpb:((pn:Int)==0)=true:=by simp[hp]
   obtain rfl:=HC.out.1 hp
   clear HC
   go_wp2
   go_ret
   exact⟨rfl,HBW.out⟩
  ·have hpb:((pn:Int)==0)=false:=by simp[hp]
   cases P1
   ·obtain rfl:=HC.out.2.1 hp rfl
    clear HC
    go_wp2
    go_ret
    exact⟨rfl,HBW.out⟩
   ·obtain rfl:=HC.out.2.2 hp rfl
    clear HC
    go_wp2
    go_ret
    exact⟨rfl,HBW.out⟩
end
section
open Go.RowKit
theorem RatQ.cast_den{w:World}{v:Value}{L:Nat}{s:Bool}{N D E:Int}(h:RatQ w v L s N D)(e:D=E):RatQ w v L s N E:=e▸h
def RatV(w:World)(v:Value)(L:Nat)(n d:Int):Prop:=∃s N,RatQ w v L s N d∧sgn s N=n
theorem RatV.below{w w':World}{v:Value}{L:Nat}{n d:Int}(h:RatV w v L n d)(hb:Below w.heap.size w w'):RatV w' v L n d:=by
 obtain⟨s,N,h,e⟩:=h
 exact⟨s,N,h.below hb,e⟩
theorem RatV.agg{w:World}{v:Value}{L:Nat}{n d:Int}(h:RatV w v L n d):∃s a k c b m e,v=.agg #[.bool s,.slice a k c,.slice b m e]∧True:=by
 obtain⟨s,N,⟨a,k,c,b,m,e,rfl,_,_⟩,_⟩:=h
 exact⟨s,a,k,c,b,m,e,rfl,trivial⟩
theorem RatV.le{w:World}{v:Value}{L K:Nat}{n d:Int}(h:RatV w v L n d)(hk:L<=K):RatV w v K n d:=by
 obtain⟨s,N,h,e⟩:=h
 exact⟨s,N,h.le hk,e⟩
theorem sgn_nat(N:Int):sgn (decide (N<0)) (N.natAbs:Nat)=N:=by
 unfold sgn
 by_cases h:N<0<;>simp[h]<;>omega
theorem rplus_v(w:World)(v u:Value)(L K:Nat)(n d m e:Int)(h:RatV w v L n d)(k:RatV w u K m e)(hL:L<=100)(hK:K<=100):
 Calls Tryz.prog 24 #[v,u] w fun e' w'=>∃x,e'=.returned x∧RatV w' x (L+K+1) (n*e+m*d) (d*e)∧Below w.heap.size w w':=by
 obtain⟨s,N,h,rfl⟩:=h
 obtain⟨t,M,k,rfl⟩:=k
 refine(zOU w v u L K s t N d M e h k hL hK).mono ?_
 rintro e' w' ⟨x,rfl,hx,hb⟩
 refine⟨x,rfl,⟨_,_,hx.cast_den plusQ_den,plusQ_val⟩,hb⟩
theorem exact_v(w:World)(N D:Int)(hN: -4611686018427387904<=N∧N<=4611686018427387904)(hD:0<=D∧D<=4611686018427387904):
 Calls Tryz.prog 22 #[.agg #[.int .i64 N,.int .i64 D]] w fun e w'=>∃x,e=.returned x∧RatV w' x 3 N D∧Below w.heap.size w w':=by
 refine(exact_c w N D hN hD).mono ?_
 rintro e' w' ⟨x,rfl,hx,hb⟩
 exact⟨x,rfl,⟨_,_,hx,sgn_nat N⟩,hb⟩
theorem whole_v(w:World)(n:Int)(hN: -4611686018427387904<=n∧n<=4611686018427387904):
 Calls Tryz.prog 91 #[.int .i64 n] w fun e w'=>∃x,e=.returned x∧RatV w' x 3 n 1∧Below w.heap.size w w':=by
 refine(nwhole_c w n hN).mono ?_
 rintro e' w' ⟨x,rfl,hx,hb⟩
 exact⟨x,rfl,⟨_,_,hx,sgn_nat n⟩,hb⟩
theorem rorder_v(w:World)(v u:Value)(L K:Nat)(n d m e:Int)(h:RatV w v L n d)(k:RatV w u K m e)(hL:L<=100)(hK:K<=97):
 Calls Tryz.prog 21 #[v,u] w fun e' w'=>e'=.returned (.int .i64 (cmpI (n*e) (m*d)))∧Below w.heap.size w w':=by
 obtain⟨s,N,h,rfl⟩:=h
 obtain⟨t,M,k,rfl⟩:=k
 exact rorder_c w v u L K s t N d M e h k hL hK
def zPR(w:World)(g L:Nat)(n d:Int):Prop:=∃s a k c b m e,w.heap[g]? =some (.cells #[.bool s,.slice a k c,.slice b m e] 37 (0,0))∧RatV w (.agg #[.bool s,.slice a k c,.slice b m e]) L n d
theorem zPR.below{w w':World}{g L:Nat}{n d:Int}(h:zPR w g L n d)(hb:Below w.heap.size w w'):zPR w' g L n d:=by
 obtain⟨s,a,k,c,b,m,e,h1,h2⟩:=h
 exact⟨s,a,k,c,b,m,e,(hb.block g (Array.getElem?_eq_some_iff.1 h1).1).trans h1,h2.below hb⟩
theorem zPR.le{w:World}{g L K:Nat}{n d:Int}(h:zPR w g L n d)(hk:L<=K):zPR w g K n d:=by
 obtain⟨s,a,k,c,b,m,e,h1,h2⟩:=h
 exact⟨s,a,k,c,b,m,e,h1,h2.le hk⟩
def QBlk(w:World)(g:Nat):Prop:=∃s a k c b m e,w.heap[g]? =some (.cells #[.bool s,.slice a k c,.slice b m e] 37 (0,0))
theorem QBlk.store{w:World}{g:Nat}(h:QBlk w g){v:Value}{L:Nat}{n d:Int}(k:RatV w v L n d):
 ∃s a k c b m e,v=.agg #[.bool s,.slice a k c,.slice b m e]∧(∀o,o<3->∃u,w.cell? ⟨g,o,none⟩=some u)∧(∀o,w.frozen? ⟨g,o,none⟩=false)∧g<w.heap.size∧
  zPR (((w.setCell ⟨g,0,none⟩ (.bool s)).setCell ⟨g,1,none⟩ (.slice a k c)).setCell ⟨g,2,none⟩ (.slice b m e)) g L n d∧
  RatV (((w.setCell ⟨g,0,none⟩ (.bool s)).setCell ⟨g,1,none⟩ (.slice a k c)).setCell ⟨g,2,none⟩ (.slice b m e)) (.agg #[.bool s,.slice a k c,.slice b m e]) L n d:=by
 obtain⟨s0,a0,k0,c0,b0,m0,e0,h1⟩:=h
 obtain⟨t,N,⟨a,k,c,b,m,e,rfl,hN,hD⟩,hv⟩:=k
 have hng:∃c,w.heap[g]? =some (.cells c 37 (0,0))∧∀x:Int,∀o:Nat,c[o]? ≠some (.int .i64 x):=
  ⟨_,h1,fun x o=>by match o with|0=>simp|1=>simp|2=>simp|o+3=>simp⟩
 have hr:RatV (((w.setCell ⟨g,0,none⟩ (.bool t)).setCell ⟨g,1,none⟩ (.slice a k c)).setCell ⟨g,2,none⟩ (.slice b m e)) (.agg #[.bool t,.slice a k c,.slice b m e]) L n d:=
  ⟨t,N,⟨_,_,_,_,_,_,rfl,hN.keeps3 hng,hD.keeps3 hng⟩,hv⟩
 refine⟨t,a,k,c,b,m,e,rfl,?_,fun o=>by simp[World.frozen?,h1],(Array.getElem?_eq_some_iff.1 h1).1,?_,hr⟩
 ·intro o ho
  match o with
  |0=>exact⟨_,by simp[World.cell?,h1];rfl⟩
  |1=>exact⟨_,by simp[World.cell?,h1];rfl⟩
  |2=>exact⟨_,by simp[World.cell?,h1];rfl⟩
  |o+3=>omega
 ·have h2:=zJR (zJR (zJR h1 0 (.bool t)) 1 (.slice a k c)) 2 (.slice b m e)
  exact⟨t,a,k,c,b,m,e,h2,hr⟩
end
section
open Go.RowKit
theorem rsize_c(w:World)(v:Value)(L:Nat)(s:Bool)(N D:Int)(h:RatQ w v L s N D):
 Calls Tryz.prog 125 #[v] w fun e w'=>∃x,e=.returned x∧RatQ w' x L false N D∧Below w.heap.size w w':=by
 obtain⟨na,nn,nc,da,dn,dc,rfl,hN,hD⟩:=h
 obtain⟨s0,hs⟩:=exq (w.heap.size)
 obtain⟨wa,hwa⟩:=exq ((w.alloc (.cells #[.bool s,.slice na nn nc,.slice da dn dc] 37)).alloc (.cells #[.bool false,.slice none 0 0,.slice none 0 0] 37))
 have hba:Below w.heap.size w wa:=by rw[hwa];exact((Below.refl _ _).alloc (Nat.le_refl _) _).alloc (by simp) _
 have q0:wa.heap[s0+1]? =some (.cells #[.bool false,.slice none 0 0,.slice none 0 0] 37 (0,0)):=by
  have:=World.alloc_heap_new (w.alloc (.cells #[.bool s,.slice na nn nc,.slice da dn dc] 37)) (.cells #[.bool false,.slice none 0 0,.slice none 0 0] 37)
  rw[hwa,hs]
  simpa using this
 have hs1:s0+1<wa.heap.size:=(Array.getElem?_eq_some_iff.1 q0).1
 have hc:∀o v,(#[Value.bool s,.slice na nn nc,.slice da dn dc]:Array Value)[o]? =some v->wa.cell? ⟨s0,o,none⟩=some v:=fun o v h=>by
  rw[hwa,hs,World.cell?_alloc_past _ _ _ (by simp),World.cell?_alloc_at _ _ _ _ rfl];exact h
 have HS:=hid (fun(Y:World) (hY:Below wa.heap.size wa Y)=>show Y.cell? ⟨s0,0,none⟩=some (.bool s)∧Y.cell? ⟨s0,1,none⟩=some (.slice na nn nc)∧Y.cell? ⟨s0,2,none⟩=some (.slice da dn dc)from by
  have k0:∀o,Y.cell? ⟨s0,o,none⟩=wa.cell? ⟨s0,o,none⟩:=fun o=>hY.cell (p:=⟨s0,o,none⟩) (by show s0<_;omega)
  exact⟨(k0 0).trans (hc 0 _ rfl),(k0 1).trans (hc 1 _ rfl),(k0 2).trans (hc 2 _ rfl)⟩)
 have HR:=hid (fun(Y:World) (hY:Below wa.heap.size wa Y)=>show Y.cell? ⟨s0+1,0,none⟩=some (.bool false)∧Y.cell? ⟨s0+1,1,none⟩=some (.slice none 0 0)∧Y.cell? ⟨s0+1,2,none⟩=some (.slice none 0 0)∧(∀o,Y.frozen? ⟨s0+1,o,none⟩=false)∧s0+1<Y.heap.size from by
  have h1:=(hY.block (s0+1) hs1).trans q0
  exact⟨by simp[World.cell?,h1],by simp[World.cell?,h1],by simp[World.cell?,h1],fun o=>by simp[World.frozen?,h1],(Array.getElem?_eq_some_iff.1 h1).1⟩)
 have HFIN:=hid (fun(Y:World) (hY:Below wa.heap.size wa Y) (x y z:Value)=>show Below w.heap.size w (((Y.setCell ⟨s0+1,0,none⟩ x).setCell ⟨s0+1,1,none⟩ y).setCell ⟨s0+1,2,none⟩ z)from
  zAC (zAC (zAC (zAA hba hY) (by omega) 0 x) (by omega) 1 y) (by omega) 2 z)
 have HNG:=hid (fun(Y:World) (hY:Below wa.heap.size wa Y)=>show ∃c,Y.heap[s0+1]? =some (.cells c 37 (0,0))∧∀x:Int,∀o:Nat,c[o]? ≠some (.int .i64 x)from
  ⟨_,(hY.block (s0+1) hs1).trans q0,fun x o=>by match o with|0=>simp|1=>simp|2=>simp|o+3=>simp⟩)
 have HNN:=hid (fun(Y:World) (hY:Below wa.heap.size wa Y)=>And.intro (hN.below (zAA hba hY)) (hD.below (zAA hba hY)))
 obtain⟨c0,c1,c2⟩:=HS.out wa (Below.refl _ _)
 obtain⟨x0,x1,x2,hfz,hlt⟩:=HR.out wa (Below.refl _ _)
 have f0:=hfz 0
 have f1:=hfz 1
 have f2:=hfz 2
 have HK1:=hid ((HNN.out wa (Below.refl _ _)).1.keeps3 (g:=s0+1) (u:=.bool false) (v:=.slice na nn nc) (z:=.slice da dn dc) (HNG.out _ (Below.refl _ _)))
 have HK2:=hid ((HNN.out wa (Below.refl _ _)).2.keeps3 (g:=s0+1) (u:=.bool false) (v:=.slice na nn nc) (z:=.slice da dn dc) (HNG.out _ (Below.refl _ _)))
 have HFI:=hid (HFIN.out _ (Below.refl _ _) (.bool false) (.slice na nn nc) (.slice da dn dc))
 have HWA:=hid hwa
 have HSS:=hid hs
 clear hba q0 hs1 hc hN hD hfz hwa
 go_enter Tryz.func125,Tryz.ntmps125
 go_upto_region 1 with fail
 rw[<- hs,<- HWA.out]
 clear hs
 go_wp2
 refine bodyPost_ret (v:=.agg #[.bool false,.slice na nn nc,.slice da dn dc]) ?_ rfl ⟨_,rfl,⟨_,_,_,_,_,_,rfl,HK1.out,HK2.out⟩,HFI.out⟩
 simp[results,Tryz.results125,go_sem,x0,x1,x2,f0,f1,f2,hlt]
theorem rsize_v(w:World)(v:Value)(L:Nat)(n d:Int)(h:RatV w v L n d):
 Calls Tryz.prog 125 #[v] w fun e w'=>∃x,e=.returned x∧RatV w' x L (n.natAbs:Nat) d∧Below w.heap.size w w':=by
 obtain⟨s,N,h,rfl⟩:=h
 refine(rsize_c w v L s N d h).mono ?_
 rintro e w' ⟨x,rfl,hx,hb⟩
 have h0:0<=N:=by obtain⟨_,_,_,_,_,_,_,hN,_⟩:=h;exact hN.nonneg
 refine⟨x,rfl,⟨false,N,hx,?_⟩,hb⟩
 unfold sgn;cases s<;>simp<;>omega
end
section
open Go.RowKit
theorem r5norm_c(w:World)(a2:Option Addr)(n cap2:Nat)(x:List Rt)(hn:x.length=n)(hm:n<=10)(H2:zCJ w a2 x)
 (hx:∀k,0<=(zAE x k).2∧(zAE x k).2<=1000000000000∧ -1000000000000<=(zAE x k).1∧(zAE x k).1<=1000000000000):
 Calls Tryz.prog 87 #[.slice a2 n cap2] w fun e w'=>∃v,e=.returned v∧RatV w' v 90 (zIA x).1 (zIA x).2∧Below w.heap.size w w':=by
 obtain⟨s0,hs⟩:=exq (w.heap.size)
 obtain⟨wa,hwa⟩:=exq (w.alloc (.cells #[.bool false,.slice none 0 0,.slice none 0 0] 37))
 have hba:Below w.heap.size w wa:=by rw[hwa];exact(Below.refl _ _).alloc (Nat.le_refl _) _
 have q0:wa.heap[s0]? =some (.cells #[.bool false,.slice none 0 0,.slice none 0 0] 37 (0,0)):=by
  rw[hwa,hs];exact World.alloc_heap_new w _
 have hs1:s0<wa.heap.size:=(Array.getElem?_eq_some_iff.1 q0).1
 have HQ0:=hid (fun(Y:World) (hY:Below wa.heap.size wa Y)=>show QBlk Y s0 from⟨_,_,_,_,_,_,_,(hY.block s0 hs1).trans q0⟩)
 have HBA:=hid hba
 have HFIN:=hid (fun(Y:World) (hY:Below wa.heap.size wa Y) (x y z:Value)=>show Below w.heap.size w (((Y.setCell ⟨s0,0,none⟩ x).setCell ⟨s0,1,none⟩ y).setCell ⟨s0,2,none⟩ z)from
  zAC (zAC (zAC (zAA hba hY) (by omega) 0 x) (by omega) 1 y) (by omega) 2 z)
 have HXI:=hid (fun(X:World) (hX:Below wa.heap.size wa X)=>H2.below (zAA hba hX))
 have HX:=hid hx
 have HN:=hid hn
 have HSQ:=hid (show zIA x=nrmS x n by unfold zIA;rw[hn])
 have HSZ:=hid (show nrmS x 0=(0,1)from rfl)
 have HSR:=hid (fun t=>show nrmS x (t+1)=if (zAE x t).1≠0 then((nrmS x t).1*(zAE x t).2+((zAE x t).1.natAbs:Int)*(nrmS x t).2,(nrmS x t).2*(zAE x t).2)else nrmS x t from rfl)
 clear hba q0 hs1 H2 hx hn
 go_enter Tryz.func87,Tryz.ntmps87
 go_wp2_with fail
 rw[<- hs,<- hwa]
 clear hs hwa
 go_wp2_with (go_at_call 91;refine(whole_v _ 0 (by decide)).mono ?_;rintro e w1 ⟨v1,rfl,hv1,hb1⟩;refine Stop.of ?_)
 refine Stop.go ?_
 obtain⟨ss,sa,sk,sc,sb,sm',se,rfl,_⟩:=hv1.agg
 have HV1:=hid hv1
 have HB1:=hid hb1
 clear hv1 hb1
 go_wp2_with fail
 obtain⟨wb,hwb⟩:=exq (w1.alloc (.cells #[.bool ss,.slice sa sk sc,.slice sb sm' se] 37))
 obtain⟨g,hg⟩:=exq (w1.heap.size)
 have hrb:zPR wb g 3 0 1:=by
  rw[hwb,hg]
  exact⟨ss,sa,sk,sc,sb,sm',se,World.alloc_heap_new _ _,HV1.out.below ((Below.refl _ _).alloc (Nat.le_refl _) _)⟩
 have hbb:Below wa.heap.size wa wb:=by rw[hwb];exact HB1.out.alloc HB1.out.size _
 have hgs:wa.heap.size<=g:=by rw[hg];exact HB1.out.size
 rw[<- hwb,<- hg]
 have HRB:=hid hrb
 have HBB:=hid hbb
 clear hwb hg hrb hbb HV1 HB1
 go_loopw [9] (fun i wr=>∃t:Nat,t<=n∧i=.int .i64 t∧zPR wr g (3+7*t) (nrmS x t).1 (nrmS x t).2∧Below wa.heap.size wa wr) (fun i _=>n-(intOf i).toNat)
 case atStart=>exact⟨0,Nat.zero_le _,rfl,by rw[HSZ.out];exact HRB.out,HBB.out⟩
 case round=>
  obtain⟨t,ht,rfl,hrr,hbr⟩:=hrel
  by_cases htl:t<n
  ·have htx:t<x.length:=by rw[HN.out];exact htl
   obtain⟨bx,ox,rfl,hbx,hx0,hx1⟩:=(HXI.out wr hbr) t htx
   have hxt:zAE x t=x[t]'htx:=by unfold zAE;rw[List.getElem?_eq_getElem htx];rfl
   rw[<- hxt]at hx0 hx1
   obtain⟨x1,x2,x3,x4⟩:=HX.out t
   have hsr:=HSR.out t
   obtain⟨⟨N,D⟩,hND⟩:∃q,q=zAE x t:=⟨_,rfl⟩
   rw[<- hND]at hx0 hx1 x1 x2 x3 x4 hsr
   simp only[]at hx0 hx1 x1 x2 x3 x4 hsr
   have i0:(0:Int)<=(t:Int):=by omega
   have i1:(t:Int)<(n:Int):=by omega
   have HRR:=hid hrr
   have HBR:=hid hbr
   have HXS:=hid hsr
   have HND:=hid (And.intro (And.intro x3 x4) (And.intro x1 x2))
   clear hsr hND hxt hrr hbr x1 x2 x3 x4 hbx
   go_upto_region 5 with fail
   obtain⟨h,hh⟩:=exq (wr.heap.size)
   obtain⟨wh,hwh⟩:=exq (wr.alloc (.cells #[.int .i64 N,.int .i64 D] 29))
   rw[<- hh,<- hwh]
   have hbh:Below wr.heap.size wr wh:=by rw[hwh];exact(Below.refl _ _).alloc (Nat.le_refl _) _
   have HRH:=hid (show RatI wh h (N,D)by rw[hwh,hh];exact RatI.made wr (N,D))
   have HBH:=hid (zAA HBR.out hbh)
   have HRR2:=hid (HRR.out.below hbh)
   clear hx0 hx1 hh hwh hbh
   obtain⟨h0,h1,_⟩:=HRH.out.cells
   simp only[]at h0 h1
   by_cases hz:N=0
   ·have hvb:(N !=0)=false:=by simp[hz]
    have HNX:=hid (show nrmS x (t+1)=nrmS x t by rw[HXS.out,if_neg (by simp[hz])])
    clear hz
    go_wp2
    refine⟨⟨t+1,by omega,by go_num,by rw[HNX.out];exact HRR2.out.le (by omega),HBH.out⟩,by simp[intOf];omega⟩
   ·have hvb:(N !=0)=true:=by simp[hz]
    obtain⟨⟨sn,sd⟩,hS⟩:∃q,q=nrmS x t:=⟨_,rfl⟩
    have hXS:=HXS.out
    rw[if_pos hz,<- hS]at hXS
    have HNX:=hid hXS
    obtain⟨us,ua,uk,uc,ub,um,ue,hgb,hrv⟩:=HRR2.out
    rw[<- hS]at hrv
    simp only[]at hrv
    have hglt:=(Array.getElem?_eq_some_iff.1 hgb).1
    have HQB:=hid (fun(X:World) (hX:Below wh.heap.size wh X)=>show QBlk X g from⟨us,ua,uk,uc,ub,um,ue,(hX.block g hglt).trans hgb⟩)
    have HRV:=hid (fun(X:World) (hX:Below wh.heap.size wh X)=>hrv.below hX)
    have HS:=hid (fun(X:World) (hX:Below wh.heap.size wh X)=>show X.cell? ⟨g,0,none⟩=some (.bool us)∧X.cell? ⟨g,1,none⟩=some (.slice ua uk uc)∧X.cell? ⟨g,2,none⟩=some (.slice ub um ue)∧X.cell? ⟨h,0,none⟩=some (.int .i64 N)∧X.cell? ⟨h,1,none⟩=some (.int .i64 D)from by
     have h1:=(hX.block g hglt).trans hgb
     obtain⟨c0,c1,_⟩:=(HRH.out.keep (hX.block _ HRH.out.lt)).cells
     exact⟨by simp[World.cell?,h1],by simp[World.cell?,h1],by simp[World.cell?,h1],c0,c1⟩)
    have htn:t<10:=by omega
    clear hXS hS hgb hrv hz
    go_upto_region 6 with fail
    clear h0 h1
    refine zAF (fun j' X=>decide (j'<=4)=true->X.cell? ⟨g,0,none⟩=some (.bool us)∧X.cell? ⟨g,1,none⟩=some (.slice ua uk uc)∧X.cell? ⟨g,2,none⟩=some (.slice ub um ue)∧X.cell? ⟨h,0,none⟩=some (.int .i64 N)∧X.cell? ⟨h,1,none⟩=some (.int .i64 D)) (by kernel_rfl) ?_
    have hbd:Below wh.heap.size wh wh.drew:=(Below.refl _ _).drew
    generalize wh.drew=wd at hbd⊢
    refine AnyT.tD (i:=0) (v:=.agg #[.bool us,.slice ua uk uc,.slice ub um ue]) rfl rfl (by rintro w' ⟨y1,y2,y3,y4,y5⟩;go_simp) (HS.out _ hbd) ?_;go_frame
    refine AnyT.tD (i:=1) (v:=.agg #[.int .i64 N,.int .i64 D]) rfl rfl (by rintro w' ⟨y1,y2,y3,y4,y5⟩;go_simp) (HS.out _ hbd) ?_;go_frame
    refine AnyT.nx (i:=2) rfl ?_
    go_wp2_with (go_at_call 22;refine(exact_v _ N D (by have:=HND.out;omega) (by have:=HND.out;omega)).mono ?_;rintro e w4 ⟨v4,rfl,hv4,hb4⟩;refine Stop.of ?_)
    refine Stop.go ?_
    obtain⟨ps,pa,pk,pc,pb,pm,pe,rfl,_⟩:=hv4.agg
    have HB4:=hid (zAA hbd hb4)
    have HV4:=hid hv4
    clear hv4 hb4
    go_wp2
    refine⟨fun _=>HS.out _ HB4.out,?_⟩
    refine AnyT.nx (i:=3) rfl ?_
    go_wp2_with (go_at_call 125;refine(rsize_v _ _ 3 N D HV4.out).mono ?_;rintro e w5 ⟨v5,rfl,hv5,hb5⟩;refine Stop.of ?_)
    refine Stop.go ?_
    obtain⟨qs,qa,qk,qc,qb,qm,qe,rfl,_⟩:=hv5.agg
    have HB5:=hid (zAA HB4.out hb5)
    have HV5:=hid hv5
    clear hv5 hb5 HV4
    go_wp2
    refine⟨fun _=>HS.out _ HB5.out,?_⟩
    refine AnyT.nx (i:=4) rfl ?_
    go_wp2_with (go_at_call 24;refine(rplus_v _ _ _ (3+7*t) 3 sn sd (N.natAbs:Nat) D (HRV.out _ HB5.out) HV5.out (by omega) (by omega)).mono ?_;rintro e w6 ⟨v6,rfl,hv6,hb6⟩;refine Stop.of ?_)
    refine Stop.go ?_
    obtain⟨zs,za,zk,zc,zb,zm,ze,e6,hcl,hfz,hlt,hin,_⟩:=(HQB.out _ (zAA HB5.out hb6)).store hv6
    subst e6
    have HB6:=hid (zAA HBH.out (zAA HB5.out hb6))
    have HB7:=hid (zAA HB5.out hb6)
    obtain⟨u0,x0⟩:=hcl 0 (by omega)
    obtain⟨u1,x1⟩:=hcl 1 (by omega)
    obtain⟨u2,x2⟩:=hcl 2 (by omega)
    have f0:=hfz 0
    have f1:=hfz 1
    have f2:=hfz 2
    have HIN:=hid (hin.le (show 3+7*t+3+1<=3+7*(t+1)by omega))
    have HBE:=hid (show Below wa.heap.size wa (((w6.setCell ⟨g,0,none⟩ (.bool zs)).setCell ⟨g,1,none⟩ (.slice za zk zc)).setCell ⟨g,2,none⟩ (.slice zb zm ze))from zAC (zAC (zAC HB6.out hgs 0 _) hgs 1 _) hgs 2 _)
    clear hcl hfz hin hv6 hb6 HV5
    go_wp2
    refine⟨fun _=>HS.out _ HB7.out,?_⟩
    refine AnyT.nx (i:=5) rfl ?_
    go_wp2
    refine⟨fun h=>absurd h (by decide),?_⟩
    refine AnyT.done (by kernel_rfl) ?_ _
    go_wp2
    refine⟨⟨t+1,by omega,by go_num,?_,HBE.out⟩,by simp[intOf];omega⟩
    rw[HNX.out]
    exact HIN.out
  ·obtain rfl:t=n:=by omega
   have hni:¬(t:Int)<(t:Int):=by omega
   rw[<- HSQ.out]at hrr
   obtain⟨us,ua,uk,uc,ub,um,ue,hgb,hrv⟩:=hrr
   obtain⟨zs,za,zk,zc,zb,zm,ze,e6,hcl,hfz,hlt,hin,hout⟩:=(HQ0.out _ hbr).store hrv
   cases e6
   obtain⟨u0,x0⟩:=hcl 0 (by omega)
   obtain⟨u1,x1⟩:=hcl 1 (by omega)
   obtain⟨u2,x2⟩:=hcl 2 (by omega)
   have f0:=hfz 0
   have f1:=hfz 1
   have f2:=hfz 2
   have g0:wr.cell? ⟨g,0,none⟩=some (.bool us):=by simp[World.cell?,hgb]
   have g1:wr.cell? ⟨g,1,none⟩=some (.slice ua uk uc):=by simp[World.cell?,hgb]
   have g2:wr.cell? ⟨g,2,none⟩=some (.slice ub um ue):=by simp[World.cell?,hgb]
   have HOUT:=hid (hout.le (show 3+7*t<=90 by omega))
   have HFI:=hid (HFIN.out _ hbr (.bool us) (.slice ua uk uc) (.slice ub um ue))
   clear hcl hfz hin hout hrv hbr hgb
   go_wp2
   refine bodyPost_ret (v:=.agg #[.bool us,.slice ua uk uc,.slice ub um ue]) ?_ rfl ⟨_,rfl,HOUT.out,HFI.out⟩
   simp[results,Tryz.results87,go_sem,x0,x1,x2,f0,f1,f2,hlt]
end
section
open Go.RowKit
theorem copy_rowN{P:Program}(w:World)(dT sT ty:TypeId)(g o dLen dCap:Nat)(a:Addr)(sLen sCap sz:Nat)(cur:Array Value)(t:TypeId)(cs:List Value)(elem:TypeId)
 (hu:P.underlying dT=some (.slice elem))(hs:(P.info? elem).map (·.size)=some sz)(hg:w.heap[g]? =some (.cells cur t (0,0)))(hn:cs.length=Nat.min sLen dLen*sz)
 (hsrc:∀j v,cs[j]? =some v->w.cell? (a.add j)=some v)(hfit:o+cs.length<=cur.size)(h1:∀v∈cs,v.oneCell'=true):
 (Builtin.copy_ #[dT,sT] ty #[.slice (some ⟨g,o,none⟩) dLen dCap,.slice (some a) sLen sCap]).run P w=.ok (goInt (Nat.min sLen dLen)) (w.setRow g (cur.toList.take o++cs++cur.toList.drop (o+cs.length)).toArray):=by
 have hl:=run_loadCells_list (P:=P) w a cs hsrc
 have hst:=run_storeCells_at P g o t cs 0 cur w hg (by simpa using hfit) h1
 cases hq:P.info? elem with
 |none=>simp[hq]at hs
 |some i=>
  have hi:i.size=sz:=by simpa[hq]using hs
  simp[Builtin.copy_,run_underlying hu,Builtin.lenOf,Builtin.firstCells,sizeOf,typeInfo,hq,hi,<- hn,hl,hst]
theorem wpList_copyN{P:Program}{w:World}{ops:Array Oper}{rest:List Oper}{o:Oper}{a:Act}{Q:Exit->Act->World->Prop}(hgd:o.guard=none)(d s:Operand)(dT sT:TypeId)
 (ho:o.op=.call {callee:=.builtin .copy,args:=#[d,s],argTypes:=#[dT,sT]})(elem:TypeId)(sz:Nat)(hu:P.underlying dT=some (.slice elem))(hsz:(P.info? elem).map (·.size)=some sz)
 (g off dLen dCap:Nat)(ad:Addr)(sLen sCap:Nat)(hd:a.eval d=.slice (some ⟨g,off,none⟩) dLen dCap)(hs:a.eval s=.slice (some ad) sLen sCap)
 (cur:List Value)(t:TypeId)(hg:w.heap[g]? =some (.cells cur.toArray t (0,0)))(cs:List Value)(m:Nat)(hm:m=Nat.min sLen dLen)(hn:cs.length=m*sz)
 (hsrc:∀j v,cs[j]? =some v->w.cell? (ad.add j)=some v)(hfit:off+cs.length<=cur.length)(h1:∀v∈cs,v.oneCell'=true)(B:Nat)(w0:World)(hb:Below B w0 w)(hBg:B<=g)
 (h:∀w',Hid (w'.heap[g]? =some (.cells (splice cur off cs).toArray t (0,0)))->Below B w0 w'->wpList P ops Q rest (a.put o.dst (goInt m)) w'):wpList P ops Q (o::rest) a w:=by
 refine wpList_plain hgd fun K hK=>?_
 have hrun:=copy_rowN (P:=P) w dT sT o.type g off dLen dCap ad sLen sCap sz cur.toArray t cs elem hu hsz hg (by rw[hn,hm]) hsrc (by simpa using hfit) h1
 unfold Oper.wp
 rw[<- hm]at hrun
 simp[execOp,ho,resolve,invoke,builtin,hd,hs,hrun,Result.andThen]
 refine hK _ _ (h _ ?_ (below_setRow hb hBg _))
 show _=_
 simpa[splice]using setRow_heap w g _ _ t _ hg
theorem zET(l m:List Rt):zAO (l++m)=zAO l++zAO m:=by simp[zAO]
theorem zNJ(L M:List Rt)(k:Nat)(c:List Rt)(hk:k+c.length<=L.length):splice (zAO L) (k*2) (zAO c)=zAO (L.take k++(c++L.drop (k+c.length))):=by
 unfold splice
 have h1:(zAO L).take (k*2)=zAO (L.take k):=by
  have:=zET (L.take k) (L.drop k)
  rw[List.take_append_drop]at this
  rw[this,List.take_append_of_le_length (by rw[zBQ,List.length_take];omega),List.take_of_length_le (by rw[zBQ,List.length_take];omega)]
 have h2:(zAO L).drop (k*2+(zAO c).length)=zAO (L.drop (k+c.length)):=by
  have:=zET (L.take (k+c.length)) (L.drop (k+c.length))
  rw[List.take_append_drop]at this
  have e:k*2+(zAO c).length=(zAO (L.take (k+c.length))).length:=by rw[zBQ,zBQ,List.length_take];omega
  rw[this,e,List.drop_left]
 rw[h1,h2,zET,zET]
theorem bmul_c(x y:Nat)(hx:x<18446744073709551616)(hy:y<18446744073709551616)(h:x*y<18446744073709551616)(w:World):
 Calls Tryz.prog 227 #[.int .u64 x,.int .u64 y] w fun e w'=>e=.returned (.tuple #[.int .u64 0,.int .u64 ((x*y:Nat):Int)])∧w=w':=by
 have HM:=hid (mul64_c x y hx hy w)
 rw[Nat.div_eq_of_lt h,Nat.mod_eq_of_lt h]at HM
 obtain⟨z,hz⟩:=exq (x*y)
 rw[<- hz]at HM⊢
 clear hz h hx hy
 go_enter Tryz.func227,Tryz.ntmps227
 go_wp2_with (go_at_call 209;refine HM.out.mono ?_;rintro e w1 ⟨rfl,rfl⟩)
 go_ret2
 exact⟨rfl,rfl⟩
theorem zMR:(Tryz.prog.info? 29).map (·.size)=some 2:=by kernel_rfl
theorem repeat_c(w:World)(a:Option Addr)(cap:Nat)(r:Rt)(H:zCJ w a [r])(N:Nat)(hN1:1<=N)(hN:N<=1000):
 Calls Tryz.prog 186 #[.slice a 1 cap,.int .i64 N] w fun e w'=>∃g,e=.returned (.slice (some ⟨g,0,none⟩) N N)∧w.heap.size<=g∧zBZ w' g (List.replicate N r)∧Below w.heap.size w w':=by
 obtain⟨b,off,rfl,hb,h0,h1⟩:=H 0 (by simp)
 simp only[Nat.zero_mul,Nat.add_zero,List.getElem_cons_zero]at h0 h1
 have HMU:=hid (bmul_c 1 N (by decide) (by omega) (by omega) w)
 rw[Nat.one_mul]at HMU
 have w1:IntKind.u64.wrap (1:Int)=1:=by decide
 have w2:IntKind.u64.wrap (N:Int)=N:=by rw[IntKind.wrap_u64];omega
 have w3:IntKind.i64.wrap (N:Int)=N:=IntWalk.i64_in _ (by omega)
 have hmk:=zGX N (by omega)
 obtain⟨wa,hwa⟩:=exq (w.alloc (.cells (madeCells #[.int .i64 0,.int .i64 0] (N*2)) 29))
 obtain⟨g,hg⟩:=exq (w.heap.size)
 have hba:Below w.heap.size w wa:=by rw[hwa];exact(Below.refl _ _).alloc (Nat.le_refl _) _
 have hrb0:zBZ wa g (List.replicate N (0,0)):=by rw[hwa,hg];exact zPC w N
 have hgb:g≠b:=by omega
 have hsrc:∀(X:World),X.heap[b]? =w.heap[b]? ->∀(j:Nat) (v:Value),(zBF r)[j]? =some v->X.cell? ((⟨b,off,none⟩:Addr).add j)=some v:=by
  intro X hX j v hv
  have e:∀o,X.cell? ⟨b,o,none⟩=w.cell? ⟨b,o,none⟩:=fun o=>World.cell?_of_block hX
  match j,hv with
  |0,hv=>cases hv;exact(e _).trans h0
  |1,hv=>cases hv;exact(e _).trans h1
  |j+2,hv=>simp[zBF]at hv
 have hcp:=copy_rowN (P:=Tryz.prog) wa 42 42 3 g 0 N N ⟨b,off,none⟩ 1 cap 2 (zAO (List.replicate N (0,0))).toArray 29 (zBF r) 29 (by kernel_rfl) zMR hrb0 (by rw[show Nat.min 1 N=1 from Nat.min_eq_left hN1];rfl) (hsrc wa (hba.block b hb)) (by simp[zBF,zBQ];omega) (rat_one r)
 rw[show Nat.min 1 N=1 from Nat.min_eq_left hN1]at hcp
 obtain⟨w5,hw5⟩:=exq (wa.setRow g ((zAO (List.replicate N (0,0))).toArray.toList.take 0++zBF r++(zAO (List.replicate N (0,0))).toArray.toList.drop (0+(zBF r).length)).toArray)
 rw[<- hw5]at hcp
 have hrb1:zBZ w5 g (List.replicate 1 r++List.replicate (N-1) (0,0)):=by
  rw[hw5]
  have:=setRow_heap wa g _ ((zAO (List.replicate N (0,0))).toArray.toList.take 0++zBF r++(zAO (List.replicate N (0,0))).toArray.toList.drop (0+(zBF r).length)).toArray _ _ hrb0
  unfold zBZ
  rw[this]
  have e:=zNJ (List.replicate N (0,0)) [] 0 [r] (by simp;omega)
  unfold splice at e
  have e2:zAO [r]=zBF r:=by simp[zAO]
  rw[e2]at e
  have e3:(List.replicate N ((0:Int),(0:Int))).take 0++([r]++(List.replicate N (0,0)).drop (0+[r].length))=List.replicate 1 r++List.replicate (N-1) (0,0):=by simp
  rw[e3]at e
  simp only[List.append_assoc,Nat.zero_mul]at e⊢
  rw[e]
 have hb5:Below w.heap.size w w5:=by rw[hw5];exact below_setRow hba (by omega) _
 have HRB1:=hid hrb1
 have HB5:=hid hb5
 have HG:=hid hg
 clear hba hrb0 hgb hsrc hrb1 hb5 hw5 h0 h1 H
 go_enter Tryz.func186,Tryz.ntmps186
 go_wp2_with (go_at_call 227;refine HMU.out.mono ?_;rintro e w4 ⟨rfl,rfl⟩;refine Stop.of ?_)
 refine Stop.go ?_
 clear HMU
 rw[hg,hwa]at hcp
 clear hg hwa
 go_wp2_with fail
 clear hcp hmk
 rw[<- HG.out]
 go_loopw [8] (fun i wr=>∃k:Nat,1<=k∧k<=N∧i=.int .i64 k∧zBZ wr g (List.replicate k r++List.replicate (N-k) (0,0))∧Below w.heap.size w wr) (fun i _=>N-(intOf i).toNat)
 case atStart=>exact⟨1,by omega,hN1,rfl,HRB1.out,HB5.out⟩
 case round=>
  obtain⟨k,hk1,hk,rfl,hrk,hbk⟩:=hrel
  by_cases hlt:k<N
  ·have i1:(k:Int)<(N:Int):=by omega
   have i2:(0:Int)<=(k:Int):=by omega
   have i3:(k:Int)<=(N:Int):=by omega
   have i4:¬N=k:=by omega
   have HRK:=hid hrk
   have HBK:=hid hbk
   clear hrk hbk
   go_wp2
   refine zAF (fun j' X=>wAll j'=true->True) (by kernel_rfl) ?_
   have hbd:Below w.heap.size w wr.drew:=HBK.out.drew
   have hrd:zBZ wr.drew g (List.replicate k r++List.replicate (N-k) (0,0)):=HRK.out.keep rfl
   generalize wr.drew=wd at hbd hrd⊢
   have HRD:=hid hrd
   have HBD:=hid hbd
   clear hrd hbd
   refine AnyT.tD (i:=0) (v:=.int .i64 k) rfl rfl (by rintro w' y1;go_simp) trivial ?_;go_frame
   refine AnyT.tD (i:=1) (v:=.slice (some ⟨g,0,none⟩) N N) rfl rfl (by rintro w' y1;go_simp) trivial ?_;go_frame
   refine AnyT.tD (i:=2) (v:=.int .i64 k) rfl rfl (by rintro w' y1;go_simp) trivial ?_;go_frame
   refine AnyT.tD (i:=3) (v:=.slice (some ⟨g,k*2,none⟩) (N-k) (N-k)) rfl rfl (by rintro w' y1;go_simp) trivial ?_;go_frame
   refine AnyT.tD (i:=4) (v:=.slice (some ⟨g,0,none⟩) N N) rfl rfl (by rintro w' y1;go_simp) trivial ?_;go_frame
   refine AnyT.tD (i:=5) (v:=.int .i64 k) rfl rfl (by rintro w' y1;go_simp) trivial ?_;go_frame
   refine AnyT.tD (i:=6) (v:=.slice (some ⟨g,0,none⟩) k N) rfl rfl (by rintro w' y1;go_simp) trivial ?_;go_frame
   refine AnyT.nx (i:=7) rfl ?_
   obtain⟨m,hm⟩:=exq (Nat.min k (N-k))
   have hm1:1<=m∧k+m<=N:=by rw[hm];show 1<=min k (N-k)∧k+min k (N-k)<=N;omega
   have hcl:(zAO (List.replicate m r)).length=m*2:=by rw[zBQ,List.length_replicate]
   refine wpList_copyN rfl (.tmp 41) (.tmp 44) 42 42 rfl 29 2 (by kernel_rfl) zMR g (k*2) (N-k) (N-k) ⟨g,0,none⟩ k N rfl rfl (zAO (List.replicate k r++List.replicate (N-k) (0,0))) 29 HRD.out (zAO (List.replicate m r)) m hm hcl ?_ ?_ ?_ w.heap.size w HBD.out (by rw[HG.out];exact Nat.le_refl _) ?_
   ·intro j v hv
    have hj:j<m*2:=by rw[<- hcl];exact(List.getElem?_eq_some_iff.1 hv).1
    have e1:((⟨g,0,none⟩:Addr).add j)=⟨g,j,none⟩:=by unfold Addr.add;split<;>simp_all
    have hb0:=HRD.out
    unfold zBZ at hb0
    rw[e1]
    have hsame:(zAO (List.replicate k r++List.replicate (N-k) (0,0)))[j]? =(zAO (List.replicate m r))[j]? :=by
     have e2:List.replicate k r++List.replicate (N-k) ((0:Int),(0:Int))=List.replicate m r++(List.replicate (k-m) r++List.replicate (N-k) (0,0)):=by
      have:m<=k:=by rw[hm];exact Nat.min_le_left _ _
      rw[<- List.append_assoc,List.replicate_append_replicate,show m+(k-m)=k by omega]
     rw[e2,zET,List.getElem?_append_left (by omega)]
    simp[World.cell?,hb0,hsame,hv]
   ·rw[hcl,zBQ,List.length_append,List.length_replicate,List.length_replicate];omega
   ·intro u hu
    obtain⟨x,_,hx⟩:=List.mem_flatMap.1 hu
    exact rat_one x u hx
   ·intro w6 h6 hb6
    have HR6:=hid (show zBZ w6 g (List.replicate (k+m) r++List.replicate (N-(k+m)) (0,0))from by
     unfold zBZ
     rw[h6.out]
     have e:=zNJ (List.replicate k r++List.replicate (N-k) ((0:Int),(0:Int))) [] k (List.replicate m r) (by simp;omega)
     rw[e]
     congr 3
     rw[List.take_append_of_le_length (by simp),List.take_of_length_le (by simp),List.length_replicate,List.drop_append,List.drop_of_length_le (by simp),List.nil_append,List.drop_replicate,List.length_replicate,<- List.append_assoc,List.replicate_append_replicate]
     rw[show N-k-(k+m-k)=N-(k+m)by omega])
    have HB6:=hid hb6
    have i5:(k:Int)+(m:Int)<=N:=by omega
    clear h6 hb6 hm hcl
    go_wp2
    refine⟨fun _=>trivial,?_⟩
    refine AnyT.nx (i:=8) rfl ?_
    go_wp2
    refine⟨fun _=>trivial,?_⟩
    refine AnyT.nx (i:=9) rfl ?_
    go_wp2
    refine⟨fun _=>trivial,?_⟩
    refine AnyT.done (by kernel_rfl) ?_ _
    go_wp2
    refine⟨⟨k+m,by omega,by omega,by go_num,HR6.out,HB6.out⟩,by simp[intOf];omega⟩
  ·obtain rfl:k=N:=by omega
   have hni:¬(k:Int)<(k:Int):=by omega
   rw[Nat.sub_self]at hrk
   simp only[List.replicate_zero,List.append_nil]at hrk
   go_wp2
   go_ret
   exact⟨g,rfl,by rw[HG.out];exact Nat.le_refl _,hrk,hbk⟩
end
section
def zOQ(n:Nat)(J:List Int)(v:List Rt):List Rt:=(List.range J.length).foldl (fun out i=>out.set (J[i]?.getD 0).toNat (v[i]?.getD (0,0))) (List.replicate n (0,1))
def zDJ(n:Nat)(J:List Int)(v:List Rt)(k:Nat):List Rt:=(List.range k).foldl (fun out i=>out.set (J[i]?.getD 0).toNat (v[i]?.getD (0,0))) (List.replicate n (0,1))
theorem zIH(n:Nat)(J:List Int)(v:List Rt)(k:Nat):zDJ n J v (k+1)=(zDJ n J v k).set (J[k]?.getD 0).toNat (v[k]?.getD (0,0)):=by
 unfold zDJ;rw[List.range_succ,List.foldl_append];rfl
theorem spreadTo_len(n:Nat)(J:List Int)(v:List Rt)(k:Nat):(zDJ n J v k).length=n:=by
 unfold zDJ;rw[zEI (fun i=>v[i]?.getD (0,0)) (fun i=>(J[i]?.getD 0).toNat)];simp
end
section
open Go.RowKit
theorem spread_c(w:World)(W:Nat)(hW1:1<=W)(hW:W<=1000)(a a2:Option Addr)(k cap k2 cap2:Nat)(l:List Int)(v:List Rt)(hk:l.length=k)(hk2:v.length=k2)(hle:k<=k2)(hm:k<=1000)(H:zAI w a l)(H2:zCJ w a2 v)
 (hb:∀i,i<k->0<=l[i]?.getD 0∧l[i]?.getD 0<(W:Int)):
 Calls Tryz.prog 162 #[.int .i64 W,.slice a k cap,.slice a2 k2 cap2] w fun e w'=>∃g,e=.returned (.slice (some ⟨g,0,none⟩) W W)∧w.heap.size<=g∧zBZ w' g (zOQ W l v)∧Below w.heap.size w w':=by
 obtain⟨wa,hwa⟩:=exq (w.alloc (.cells #[.int .i64 0,.int .i64 1] 29))
 have hba:Below w.heap.size w wa:=by rw[hwa];exact(Below.refl _ _).alloc (Nat.le_refl _) _
 have hr1:zCJ wa (some ⟨w.heap.size,0,none⟩) [(0,1)]:=by
  intro j hj
  match j,hj with
  |0,_=>exact⟨_,0,rfl,by rw[hwa];simp,by rw[hwa,World.cell?_alloc_at _ _ _ _ rfl];rfl,by rw[hwa,World.cell?_alloc_at _ _ _ _ rfl];rfl⟩
 have HRP:=hid (repeat_c wa (some ⟨w.heap.size,0,none⟩) 1 (0,1) hr1 W hW1 hW)
 have HBA:=hid hba
 have HI:=hid (fun(X:World) (hX:Below w.heap.size w X)=>H.below hX)
 have HV:=hid (fun(X:World) (hX:Below w.heap.size w X)=>H2.below hX)
 have HBD:=hid hb
 have HK:=hid hk
 have HK2:=hid hk2
 have HT0:=hid (show zDJ W l v 0=List.replicate W (0,1)from rfl)
 have HTS:=hid (fun t=>zIH W l v t)
 have HTL:=hid (fun t=>spreadTo_len W l v t)
 have HTE:=hid (show zDJ W l v k=zOQ W l v by unfold zDJ zOQ;rw[hk])
 clear hba hr1 H H2 hb hk hk2
 go_enter Tryz.func162,Tryz.ntmps162
 go_wp2_with fail
 rw[<- hwa]
 clear hwa
 go_wp2_with (go_at_call 186;refine HRP.out.mono ?_;rintro e w1 ⟨g,rfl,hg,hrb,hb1⟩;refine Stop.of ?_)
 refine Stop.go ?_
 have HG:=hid (show w.heap.size<=g from Nat.le_trans HBA.out.size hg)
 have HRB:=hid hrb
 have HB1:=hid (zAA HBA.out hb1)
 clear hg hrb hb1 HRP HBA
 go_wp2
 go_loopw [16] (fun i wr=>∃t:Nat,t<=k∧i=.int .i64 t∧zBZ wr g (zDJ W l v t)∧Below w.heap.size w wr) (fun i _=>k-(intOf i).toNat)
 case atStart=>exact⟨0,Nat.zero_le _,rfl,by rw[HT0.out];exact HRB.out,HB1.out⟩
 case round=>
  obtain⟨t,ht,rfl,hrt,hbt⟩:=hrel
  by_cases htl:t<k
  ·have htk:t<l.length:=by rw[HK.out];exact htl
   have htv:t<v.length:=by rw[HK2.out];omega
   obtain⟨b5,o5,rfl,hb5,hc5⟩:=(HI.out wr hbt) t htk
   obtain⟨b6,o6,rfl,hb6,h60,h61⟩:=(HV.out wr hbt) t htv
   obtain⟨d1,d2⟩:=HBD.out t htl
   have hts:=HTS.out t
   rw[List.getElem?_eq_getElem htv,Option.getD_some]at hts
   obtain⟨⟨r1,r2⟩,hr⟩:∃r,r=v[t]'htv:=⟨_,rfl⟩
   rw[<- hr]at h60 h61 hts
   obtain⟨p,hp⟩:∃p:Nat,(p:Int)=l[t]?.getD 0:=⟨(l[t]?.getD 0).toNat,by omega⟩
   rw[<- hp]at hc5 d1 d2 hts
   rw[Int.toNat_natCast]at hts
   have hpl:p<(zDJ W l v t).length:=by rw[HTL.out];omega
   obtain⟨c0,c1,cf⟩:=hrt.cells hpl
   have f0:=cf (p*2)
   have f1:=cf (p*2+1)
   have hset:=hrt.set hpl r1 r2
   rw[<- hts]at hset
   have HSET:=hid hset
   have HBE:=hid (show Below w.heap.size w ((wr.setCell ⟨g,p*2,none⟩ (.int .i64 r1)).setCell ⟨g,p*2+1,none⟩ (.int .i64 r2))from zAC (zAC hbt HG.out _ _) HG.out _ _)
   have hgl:=hrt.lt
   have i1:(t:Int)<(k:Int):=by omega
   have i2:(t:Int)<(k2:Int):=by omega
   have i3:(p:Int)<(W:Int):=d2
   obtain⟨z0,k0⟩:∃z,wr.cell? ⟨g,p*2,none⟩=some (.int .i64 z):=⟨_,c0⟩
   obtain⟨z1,k1⟩:∃z,wr.cell? ⟨g,p*2+1,none⟩=some (.int .i64 z):=⟨_,c1⟩
   clear hset hts hr hp hrt hbt cf d1 d2 c0 c1 hpl
   go_wp2
   refine⟨⟨t+1,by omega,by go_num,HSET.out,HBE.out⟩,by simp[intOf];omega⟩
  ·obtain rfl:t=k:=by omega
   have hni:¬(t:Int)<(t:Int):=by omega
   rw[HTE.out]at hrt
   go_wp2
   go_ret
   exact⟨g,rfl,HG.out,hrt,hbt⟩
end
section
open Go.RowKit
def HdF(W:World)(us ur:Value)(f:FitT):Prop:=∃pa pn pc va vn vc,us=.slice pa pn pc∧ur=.slice va vn vc∧f.1.length=pn∧pn<=maxLen∧zAI W pa f.1∧f.2.length=vn∧vn<=maxLen∧zCJ W va f.2
theorem HdF.below{W W':World}{us ur:Value}{f:FitT}(h:HdF W us ur f)(hb:Below W.heap.size W W'):HdF W' us ur f:=by
 obtain⟨pa,pn,pc,va,vn,vc,e1,e2,h1,h2,h3,h4,h5,h6⟩:=h
 exact⟨pa,pn,pc,va,vn,vc,e1,e2,h1,h2,h3.below hb,h4,h5,h6.below hb⟩
theorem zFB.hd{W:World}{a:Option Addr}{T:List FitT}(h:zFB W a T){j:Nat}(hj:j<T.length):
 ∃b off us ur,a=some ⟨b,off,none⟩∧b<W.heap.size∧W.cell? ⟨b,off+j*2,none⟩=some us∧W.cell? ⟨b,off+j*2+1,none⟩=some ur∧HdF W us ur T[j]:=by
 obtain⟨b,off,pa,pn,pc,va,vn,vc,e,hb,h0,h1,h2,h3,h4,h5,h6,h7⟩:=h j hj
 exact⟨b,off,_,_,e,hb,h0,h1,pa,pn,pc,va,vn,vc,rfl,rfl,h2,h3,h4,h5,h6,h7⟩
def TabF(X W:World)(v:Value)(T:List FitT):Prop:=
 ∃xs,W.ownsRow X.heap.size 73 2 v T.length xs∧∀j (hj:j<T.length),∃us ur,xs[j*2]? =some us∧xs[j*2+1]? =some ur∧HdF X us ur T[j]
theorem TabF.nil(X W:World):TabF X W (.slice none 0 0) []:=⟨[],World.ownsRow_nil _ _ _ _,fun j hj=>by simp at hj⟩
theorem TabF.below{X W W':World}{v:Value}{T:List FitT}(h:TabF X W v T)(hb:Below W.heap.size W W'):TabF X W' v T:=by
 obtain⟨xs,h1,h2⟩:=h
 exact⟨xs,zBH h1 hb,h2⟩
theorem TabF.slice{X W:World}{v:Value}{T:List FitT}(h:TabF X W v T):∃a c,v=.slice a T.length c:=by
 obtain⟨xs,ho,_⟩:=h;exact zAD ho
theorem TabF.reads{X W:World}{v:Value}{T:List FitT}(h:TabF X W v T)(hb:Below X.heap.size X W):∃a cap,v=.slice a T.length cap∧T.length<=maxLen∧zFB W a T:=by
 obtain⟨xs,ho,he⟩:=h
 rcases ho.2 with⟨rfl,h0⟩|⟨g,cap,cur,rfl,hbg,hgg,hnc,hcm,hsz,htk⟩
 ·exact⟨none,0,by rw[h0],by rw[h0];decide,fun j hj=>by omega⟩
 ·refine⟨_,cap,rfl,by omega,fun j hj=>?_⟩
  obtain⟨us,ur,h1,h2,pa,pn,pc,va,vn,vc,rfl,rfl,k1,k2,k3,k4,k5,k6⟩:=he j hj
  have hc:∀i,i<T.length*2->W.cell? ⟨g,i,none⟩=xs[i]? :=fun i hi=>
   World.ownsRow.cellAt (w:=W) (base:=X.heap.size) (e:=73) (size:=2) (g:=g) (n:=T.length) (cap:=cap) (xs:=xs) ⟨ho.1,.inr ⟨g,cap,cur,rfl,hbg,hgg,hnc,hcm,hsz,htk⟩⟩ i hi
  exact⟨g,0,pa,pn,pc,va,vn,vc,rfl,(Array.getElem?_eq_some_iff.1 hgg).1,by rw[Nat.zero_add,hc _ (by omega)];exact h1,by rw[Nat.zero_add,hc _ (by omega)];exact h2,k1,k2,k3.below hb,k4,k5,k6.below hb⟩
theorem TabF.snoc{X w2:World}{v' us ur:Value}{T:List FitT}{t:FitT}{xs:List Value}{q:Nat}(hq:T.length=q)
 (hl:xs.length=q*2)(he:∀j (hj:j<T.length),∃us ur,xs[j*2]? =some us∧xs[j*2+1]? =some ur∧HdF X us ur T[j])(h1:HdF X us ur t)
 (ho':w2.ownsRow X.heap.size 73 2 v' (q+1) (xs++[us,ur])):TabF X w2 v' (T++[t]):=by
 subst hq
 refine⟨xs++[us,ur],by rw[List.length_append];exact ho',fun j hj=>?_⟩
 by_cases e:j<T.length
 ·obtain⟨us',ur',k1,k2,k3⟩:=he j e
  refine⟨us',ur',by rw[List.getElem?_append_left (by omega)];exact k1,by rw[List.getElem?_append_left (by omega)];exact k2,?_⟩
  rw[List.getElem_append_left e];exact k3
 ·have:j=T.length:=by simp at hj;omega
  subst this
  refine⟨us,ur,by rw[List.getElem?_append_right (by omega),hl];simp,by rw[List.getElem?_append_right (by omega),hl,show T.length*2+1-T.length*2=1 by omega];rfl,?_⟩
  simp only[List.getElem_append_right (Nat.le_refl _),Nat.sub_self,List.getElem_cons_zero];exact h1
theorem TabF.at{X W:World}{v:Value}{T:List FitT}(h:TabF X W v T){j:Nat}(hj:j<T.length):
 ∃g cap us ur,v=.slice (some ⟨g,0,none⟩) T.length cap∧X.heap.size<=g∧g<W.heap.size∧W.cell? ⟨g,j*2,none⟩=some us∧W.cell? ⟨g,j*2+1,none⟩=some ur∧HdF X us ur T[j]∧(∀o,W.frozen? ⟨g,o,none⟩=false)∧
  ∀us' ur' f',HdF X us' ur' f'->TabF X ((W.setCell ⟨g,j*2,none⟩ us').setCell ⟨g,j*2+1,none⟩ ur') v (T.set j f'):=by
 obtain⟨xs,h1,h2⟩:=h
 obtain⟨us,ur,hu,hr,hd⟩:=h2 j hj
 rcases h1.2 with⟨rfl,h0⟩|⟨g,cap,cur,rfl,hbg,hgg,hnc,hcm,hsz,htk⟩
 ·omega
 have hcell:=fun i hi=>World.ownsRow.cellAt (w:=W) (base:=X.heap.size) (e:=73) (size:=2) (g:=g) (n:=T.length) (cap:=cap) (xs:=xs) h1 i hi
 have hvl:xs.length=T.length*2:=h1.1
 refine⟨g,cap,us,ur,rfl,hbg,(Array.getElem?_eq_some_iff.1 hgg).1,by rw[hcell _ (by omega)];exact hu,by rw[hcell _ (by omega)];exact hr,hd,fun o=>by simp[World.frozen?,hgg],?_⟩
 intro us' ur' f' hf'
 have hb2:((W.setCell ⟨g,j*2,none⟩ us').setCell ⟨g,j*2+1,none⟩ ur').heap[g]? =some (.cells ((cur.setIfInBounds (j*2) us').setIfInBounds (j*2+1) ur') 73 (0,0)):=zAR (zAR hgg _ us') _ ur'
 refine⟨(xs.set (j*2) us').set (j*2+1) ur',⟨by simpa using h1.1,.inr ⟨g,cap,(cur.setIfInBounds (j*2) us').setIfInBounds (j*2+1) ur',by simp,hbg,hb2,by simpa using hnc,hcm,by simpa using hsz,?_⟩⟩,fun i hi=>?_⟩
 ·rw[<- htk]
  simp only[Array.toList_setIfInBounds,List.length_set]
  rw[List.take_set,List.take_set]
 ·have hi':i<T.length:=by simpa using hi
  by_cases e:j=i
  ·subst e
   refine⟨us',ur',?_,?_,by simpa using hf'⟩
   ·rw[List.getElem?_set_ne (by omega),List.getElem?_set_self (by omega)]
   ·rw[List.getElem?_set_self (by rw[List.length_set];omega)]
  ·obtain⟨u2,r2,hu2,hr2,hd2⟩:=h2 i hi'
   refine⟨u2,r2,?_,?_,by rw[List.getElem_set_ne e];exact hd2⟩
   ·rw[List.getElem?_set_ne (by omega),List.getElem?_set_ne (by omega)];exact hu2
   ·rw[List.getElem?_set_ne (by omega),List.getElem?_set_ne (by omega)];exact hr2
theorem TabF.put{X W:World}{g n cap:Nat}{T:List FitT}(h:TabF X W (.slice (some ⟨g,0,none⟩) n cap) T){j:Nat}(hj:j<T.length){us' ur':Value}{f':FitT}(hf:HdF X us' ur' f'):
 TabF X ((W.setCell ⟨g,j*2,none⟩ us').setCell ⟨g,j*2+1,none⟩ ur') (.slice (some ⟨g,0,none⟩) n cap) (T.set j f'):=by
 obtain⟨g',cap',us,ur,e,_,_,_,_,_,_,hs⟩:=h.at hj
 simp only[Value.slice.injEq,Option.some.injEq,Addr.mk.injEq,and_true]at e
 obtain⟨rfl,_,_⟩:=e
 exact hs _ _ _ hf
theorem earlier_step{a b:List Int}{k:Nat}(hk:k<a.length)(hk2:k<b.length):zAL (a.drop k) (b.drop k)=if a[k]=b[k]then zAL (a.drop (k+1)) (b.drop (k+1))else decide (a[k]<b[k]):=by
 rw[List.drop_eq_getElem_cons hk,List.drop_eq_getElem_cons hk2];rfl
theorem earlier_last{a b:List Int}{k:Nat}(h:a.length<=k∨b.length<=k)(hk:k<=a.length)(hk2:k<=b.length):zAL (a.drop k) (b.drop k)=decide (a.length<b.length):=by
 rcases Nat.lt_or_ge k a.length with c|c
 ·have e:k=b.length:=by omega
  subst e
  rw[List.drop_of_length_le (Nat.le_refl b.length),List.drop_eq_getElem_cons c,decide_eq_false (by omega)];rfl
 ·have e:k=a.length:=by omega
  subst e
  rw[List.drop_of_length_le (Nat.le_refl a.length)]
  rcases Nat.lt_or_ge a.length b.length with d|d
  ·rw[List.drop_eq_getElem_cons d,decide_eq_true d];rfl
  ·rw[List.drop_of_length_le d,decide_eq_false (by omega)];rfl
theorem r5earlier_c(w:World)(a a2:Option Addr)(n cap n2 cap2:Nat)(l l2:List Int)(hn:l.length=n)(hn2:l2.length=n2)(hm:n<=maxLen)(hm2:n2<=maxLen)(H:zAI w a l)(H2:zAI w a2 l2):
 Calls Tryz.prog 158 #[.slice a n cap,.slice a2 n2 cap2] w fun e w'=>e=.returned (.bool (zAL l l2))∧Below w.heap.size w w':=by
 have HN:=hid hn
 have HN2:=hid hn2
 have HH:=hid H
 have HH2:=hid H2
 obtain⟨R,hR⟩:=exq (zAL l l2)
 rw[<- hR]
 have HRE:=hid hR
 clear hn hn2 H H2 hR
 unfold maxLen at hm hm2
 go_enter Tryz.func158,Tryz.ntmps158
 go_wp2
 go_loopw [5] (fun i wr=>∃k:Nat,k<=n∧k<=n2∧i=.int .i64 k∧zAL (l.drop k) (l2.drop k)=R∧(∃q,wr=w.drewN q)) (fun i _=>n-(intOf i).toNat)
 case atStart=>exact⟨0,Nat.zero_le _,Nat.zero_le _,rfl,HRE.out.symm,0,rfl⟩
 case round=>
  obtain⟨k,hk,hk2,rfl,hR,q,rfl⟩:=hrel
  by_cases hlt:k<n∧k<n2
  ·obtain⟨hlt,hlt2⟩:=hlt
   have hkl:k<l.length:=by rw[HN.out];exact hlt
   have hkl2:k<l2.length:=by rw[HN2.out];exact hlt2
   obtain⟨b,off,rfl,hbs,hc⟩:=HH.out k hkl
   obtain⟨b2,off2,rfl,hbs2,hc2⟩:=HH2.out k hkl2
   have hst:=earlier_step hkl hkl2
   rw[hR]at hst
   have hg:l[k]?.getD 0=l[k]:=by rw[List.getElem?_eq_getElem hkl];rfl
   have hg2:l2[k]?.getD 0=l2[k]:=by rw[List.getElem?_eq_getElem hkl2];rfl
   rw[hg]at hc
   rw[hg2]at hc2
   obtain⟨x,hx⟩:=exq (l[k])
   obtain⟨y,hy⟩:=exq (l2[k])
   rw[<- hx]at hc hst
   rw[<- hy]at hc2 hst
   have i1:(k:Int)<(n:Int):=by omega
   have i2:(k:Int)<(n2:Int):=by omega
   have HST:=hid hst
   clear hg hg2 hx hy hR hst hbs hbs2 hkl hkl2
   by_cases he:x=y
   ·subst he
    have hb:(x !=x)=false:=by simp
    have HNX:=hid (show zAL (l.drop (k+1)) (l2.drop (k+1))=R by rw[HST.out,if_pos rfl])
    go_wp2
    go_quiet (fail)
    go_wp2
    exact⟨⟨k+1,by omega,by omega,by go_num,HNX.out,_,rfl⟩,by simp[intOf];omega⟩
   ·have hb:(x !=y)=true:=by simp[he]
    have HNX:=hid (show R=decide (x<y)by rw[HST.out,if_neg he])
    clear he
    go_wp2
    go_quiet (fail)
    go_wp2
    go_quiet (fail)
    go_wp2
    go_ret
    exact⟨by rw[HNX.out]<;>rfl,zAH (zAH (zAH (Below.refl _ _) _) _) _⟩
  ·have hlast:=earlier_last (a:=l) (b:=l2) (k:=k) (by rw[HN.out,HN2.out];omega) (by rw[HN.out];exact hk) (by rw[HN2.out];exact hk2)
   rw[hR,HN.out,HN2.out]at hlast
   have HL:=hid hlast
   clear hlast hR
   have hdec:decide ((n:Int)<(n2:Int))=decide (n<n2):=by simp
   by_cases h1:k<n
   ·have h2:¬k<n2:=fun h=>hlt ⟨h1,h⟩
    clear hlt
    have i1:(k:Int)<(n:Int):=by omega
    have i2:¬((k:Int)<(n2:Int)):=by omega
    have i3:¬((n:Int)<(n2:Int)):=by omega
    have HL2:=hid (show R=false by rw[HL.out,decide_eq_false (by omega)])
    go_wp2
    go_ret
    exact⟨by rw[HL2.out]<;>rfl,zAH (Below.refl _ _) _⟩
   ·clear hlt
    have i1:¬((k:Int)<(n:Int)):=by omega
    by_cases h2:n<n2
    ·have i3:(n:Int)<(n2:Int):=by omega
     have HL2:=hid (show R=true by rw[HL.out,decide_eq_true h2])
     go_wp2
     go_ret
     exact⟨by rw[HL2.out]<;>rfl,zAH (Below.refl _ _) _⟩
    ·have i3:¬((n:Int)<(n2:Int)):=by omega
     have HL2:=hid (show R=false by rw[HL.out,decide_eq_false h2])
     go_wp2
     go_ret
     exact⟨by rw[HL2.out]<;>rfl,zAH (Below.refl _ _) _⟩
end
section
def sumP(v:Nat->Int)(x:List Rt):Nat->Int×Int
 |0=>(0,1)
 |k+1=>((sumP v x k).1*(zAE x k).2+(sumP v x k).2*((zAE x k).1*v k),(sumP v x k).2*(zAE x k).2)
theorem sumP_bnd{v:Nat->Int}{x:List Rt}(h1:∀k,(v k).natAbs<=1000000)(hx:ValB x):
 ∀k:Nat,(sumP v x k).1.natAbs<=k*10000000000000000*400 ^ k∧1<=(sumP v x k).2∧(sumP v x k).2.natAbs<=400 ^ k
 |0=>by simp[sumP]
 |k+1=>by
  obtain⟨i1,i2,i3⟩:=sumP_bnd h1 hx k
  obtain⟨x1,x2,x3,x4⟩:=hx k
  have hv:=h1 k
  have hp:400 ^ (k+1)=400 ^ k*400:=Nat.pow_succ ..
  have hmono:400 ^ k<=400 ^ (k+1):=by rw[hp];omega
  rw[sumP]
  simp only[]
  generalize sumP v x k=s at i1 i2 i3
  generalize zAE x k=q at x1 x2 x3 x4
  generalize v k=u at hv
  obtain⟨s1,s2⟩:=s
  obtain⟨q1,q2⟩:=q
  simp only[]at*
  obtain⟨p,hpp⟩:=exq (400 ^ k)
  have hP:400 ^ (k+1)=p*400:=by rw[hpp];exact hp
  rw[<- hpp]at i1 i3
  rw[hP]
  clear hp hmono hP hpp
  obtain⟨T,hT⟩:=exq (k*p)
  have i1':s1.natAbs<=T*10000000000000000:=by rw[hT,<- Nat.mul_right_comm];exact i1
  have g1:(k+1)*10000000000000000*(p*400)=(T*400+p*400)*10000000000000000:=by
   rw[Nat.mul_right_comm,Nat.add_mul k 1,Nat.one_mul,<- Nat.mul_assoc k p 400,<- hT]
  rw[g1]
  clear i1 g1
  have e1:(s1*q2).natAbs<=T*10000000000000000*400:=by
   rw[Int.natAbs_mul];exact Nat.mul_le_mul i1' (by omega)
  have e2:(s2*(q1*u)).natAbs<=p*10000000000000000:=by
   rw[Int.natAbs_mul]
   refine Nat.mul_le_mul i3 ?_
   rw[Int.natAbs_mul]
   exact Nat.le_trans (Nat.mul_le_mul (show q1.natAbs<=10000000000 by omega) hv) (by decide)
  have e3:(s1*q2+s2*(q1*u)).natAbs<=(s1*q2).natAbs+(s2*(q1*u)).natAbs:=Int.natAbs_add_le _ _
  refine⟨by omega,?_,?_⟩
  ·have:=Int.mul_pos (show 0<s2 by omega) (show 0<q2 by omega);omega
  ·rw[Int.natAbs_mul];exact Nat.mul_le_mul i3 (by omega)
theorem sumP_bnd6{v:Nat->Int}{x:List Rt}(h1:∀k,(v k).natAbs<=1000000)(hx:ValB x){k:Nat}(h6:k<=6):
 (sumP v x k).1.natAbs<=245760000000000000000000000000000∧1<=(sumP v x k).2∧(sumP v x k).2.natAbs<=4096000000000000:=by
 obtain⟨i1,i2,i3⟩:=sumP_bnd h1 hx k
 have hp:400 ^ k<=400 ^ 6:=Nat.pow_le_pow_right (by omega) h6
 have e:(400:Nat) ^ 6=4096000000000000:=by decide
 rw[e]at hp
 refine⟨?_,i2,Nat.le_trans i3 hp⟩
 have:k*10000000000000000*400 ^ k<=6*10000000000000000*4096000000000000:=Nat.mul_le_mul (Nat.mul_le_mul_right _ h6) hp
 omega
def colP(M:Mask)(q:Nat)(i:Nat):Int:=vec (M[i]?.getD []) q
def zKN(M:Mask)(x:List Rt)(q:Nat):Bool:=decide ((sumP (colP M q) x M.length).1<=(sumP (colP M q) x M.length).2∧ -(sumP (colP M q) x M.length).2<=(sumP (colP M q) x M.length).1)
def zND(M:Mask)(x:List Rt):Bool:=(List.range (zAB M)).all fun q=>zKN M x q
theorem seesB_iff{M:Mask}{x:List Rt}:zND M x=true↔∀q,q<zAB M->zKN M x q=true:=by
 unfold zND;rw[List.all_eq_true];simp
end
section
theorem eq_floor{n d m e:Int}(hd:0<d)(he:0<e)(h:n*e=m*d):n/d=m/e:=by
 have h1:n/d=(n*e)/(d*e):=(Int.mul_ediv_mul_of_pos_left n d he).symm
 have h2:m/e=(m*d)/(e*d):=(Int.mul_ediv_mul_of_pos_left m e hd).symm
 rw[h1,h2,h,Int.mul_comm d e]
theorem eq_rest{n d m e:Int}(h:n/d=m/e):n*e=m*d↔d*(m%e)=e*(n%d):=by
 have h1:=Int.emod_add_mul_ediv n d
 have h2:=Int.emod_add_mul_ediv m e
 obtain⟨q,hq⟩:=exq (n/d)
 obtain⟨a,ha⟩:=exq (n%d)
 obtain⟨b,hb⟩:=exq (m%e)
 rw[<- h,<- hq,<- hb]at h2
 rw[<- hq,<- ha]at h1
 rw[<- ha,<- hb,<- h1,<- h2]
 constructor<;>intro h<;>grind
structure EqS (A:Prop) (n d m e:Int):Prop where
 n0:0<=n
 d0:0<=d
 m0:0<=m
 e0:0<=e
 nd:d=0->0<n
 me:e=0->0<m
 iff:A↔n*e=m*d
theorem EqS.step{A:Prop}{n d m e:Int}(h:EqS A n d m e)(hd:0<d)(he:0<e)(hq:n/d=m/e):EqS A d (n%d) e (m%e):=by
 have h1:=Int.emod_nonneg n (show d≠0 by omega)
 have h2:=Int.emod_nonneg m (show e≠0 by omega)
 exact⟨by omega,h1,by omega,h2,fun _=>hd,fun _=>he,h.iff.trans (eq_rest hq)⟩
theorem EqS.part{A:Prop}{n d m e:Int}(h:EqS A n d m e)(hd:0<d)(he:0<e)(hq:n/d≠m/e):¬A:=fun ha=>hq (eq_floor hd he (h.iff.1 ha))
theorem EqS.done{A:Prop}{n d m e:Int}(h:EqS A n d m e)(hz:d=0∨e=0):A↔d=e:=by
 rw[h.iff]
 rcases hz with rfl|rfl
 ·have:=h.nd rfl
  constructor
  ·intro hh
   have hh2:n*e=0:=by rw[hh];simp
   rcases Int.mul_eq_zero.1 hh2 with h3|h3
   ·omega
   ·exact h3.symm
  ·rintro rfl;simp
 ·have:=h.me rfl
  constructor
  ·intro hh
   have hh2:m*d=0:=by rw[<- hh];simp
   rcases Int.mul_eq_zero.1 hh2 with h3|h3
   ·omega
   ·exact h3
  ·rintro rfl;simp
end
end Go.Proofs.YtlffndehhhpgjaaGreat
