/- Walks and plain laws for DualShadesRow, part 9. -/
import Derived.WalkSmall
import Derived.Test.YtlffndehhhpgjaaGreatPkDualShadesRow8
namespace Go.Proofs.YtlffndehhhpgjaaGreat
set_option linter.unusedVariables false
set_option linter.unusedSimpArgs false
set_option maxRecDepth 100000
set_option maxHeartbeats 4000000
section
open Go.RowKit
attribute [local go_sem] Oper.semAt_some
theorem newsD(w:World)(x0 x1:Value)(T:TypeId):∀j u,[x0,x1][j]? =some u->(w.alloc (.cells #[x0,x1] T)).cell? ((⟨w.heap.size,0,none⟩:Addr).add j)=some u:=by
 intro j u hu
 match j,hu with
 |0,hu=>rw[Addr.add_lit,World.cell?_alloc_at _ _ _ _ rfl];simpa using hu
 |1,hu=>rw[Addr.add_lit,World.cell?_alloc_at _ _ _ _ rfl];simpa using hu
structure ColI (w:World) (base:Nat) (Sr:Nat->Prop) (pre:List FitT) (Z:World):Prop where
 b:Below w.heap.size w Z
 z:base<=Z.heap.size
 o:∃v,Boxed Z w.heap.size 87 v∧zCB Z base (fun q=>base<=q∧¬Sr q) v pre
theorem ColI.keep{w A B:World}{base:Nat}{S S':Nat->Prop}{pre:List FitT}(h:ColI w base S pre A)(hn:∀k,S' k->S k∨A.heap.size<=k)(hl:∀k,S' k->base<=k)(hb:w.heap.size<base)
 (hk:Keep (fun k=>(k<=w.heap.size∨base<=k)∧¬S' k) A B):ColI w base S' pre B:=by
 have hns:∀k,k<base->¬S' k:=fun k hk hs=>by have:=hl k hs;omega
 obtain⟨v,h1,h2⟩:=h.o
 refine⟨hk.below h.b h.b.size fun k hk=>⟨by omega,hns k (by omega)⟩,Nat.le_trans h.z hk.size,v,(hk.block _ h1.lt ⟨by omega,hns _ (by omega)⟩).trans h1,h2.keep hk fun q hq hlt=>?_⟩
 have h4:¬S' q:=fun hs=>by
  rcases hn q hs with h|h
  ·exact hq.2 h
  ·omega
 exact⟨⟨.inr hq.1,h4⟩,hq.1,h4⟩
theorem appendFits_c(w:World)(k kb qb:Nat)(a a2:Option Addr)(n cap n2 cap2:Nat)(M:Mask)(y:List Int)(hn:M.length=n)(hn2:y.length=n2)(hm:n<=maxLen)(hm2:n2<=maxLen)(h1:1<=n)(hW:zAB M<=10)(hk:k<=1000)
 (hkb:kb<w.heap.size)(hqb:qb<w.heap.size)(hck:w.cell? ⟨kb,0,none⟩=some (.int .i64 k))(hcq:w.heap[qb]? =some (.cells #[.slice a n cap,.slice a2 n2 cap2] 216 (0,0)))(H:zAJ w a M)(H2:zAE w a2 y):
 Calls Tryz.prog 253 #[.slice none 0 0,.func (.func 254) #[] #[.pointer (some ⟨kb,0,none⟩),.pointer (some ⟨qb,0,none⟩)]] w fun e w'=>
  Below w.heap.size w w'∧∃v base,e=.returned v∧w.heap.size<=base∧zCB w' base (fun q=>w.heap.size<=q) v (zBT M y k):=by
 obtain⟨w1,hw1⟩:=exq (w.alloc (.cells #[.slice none 0 0] 87))
 have hs1:w1.heap.size=w.heap.size+1:=by rw[hw1,World.size_alloc]
 have hb1:Below w.heap.size w w1:=by rw[hw1];exact(Below.refl _ _).alloc (Nat.le_refl _) _
 have hB:Boxed w1 w.heap.size 87 (.slice none 0 0):=by rw[hw1];exact World.alloc_heap_new _ _
 obtain⟨fp,hfp⟩:∃fp:Nat->Prop,fp=fun q=>q<w.heap.size:=⟨_,rfl⟩
 have HIT:=hid (fits_iter w1 fp k kb qb a a2 n cap n2 cap2 M y hn hn2 hm hm2 h1 (by omega) hk (by rw[hfp];intro q hq;show q<w1.heap.size;have:q<w.heap.size:=hq;omega) (by rw[hfp];exact hkb) (by rw[hfp];exact hqb)
  ((hb1.cell (p:=⟨kb,0,none⟩) hkb).trans hck) ((hb1.block _ hqb).trans hcq)
  (fun X _ hX=>by
    have hX2:∀q,q<w.heap.size->X.heap[q]? =w.heap[q]? :=fun q hq=>(hX q (by rw[hfp];exact hq)).trans (hb1.block q hq)
    exact⟨zAJ.blk H hX2,zAE.blk H2 hX2⟩))
 have HCNT:=hid (show(zBT M y k).length<=11264 by
  have h3:=zED M y (zAB M) (min (min k (zAB M)) M.length+1)
  have h4:2 ^ (zAB M)<=1024:=Nat.pow_le_pow_right (by omega) (show zAB M<=10 by omega)
  have h5:(min (min k (zAB M)) M.length+1)*2 ^ (zAB M)<=11*1024:=Nat.mul_le_mul (by omega) h4
  have h6:(zBT M y k).length=(zBI M y (zAB M) (min (min k (zAB M)) M.length+1)).length:=rfl
  omega)
 have HFP:=hid hfp
 have HW1:=hid hw1
 have HS1:=hid hs1
 have HB1:=hid hb1
 have HBX:=hid hB
 clear hn hn2 hm hm2 h1 hW hk hkb hqb hck hcq H H2 hw1 hs1 hb1 hB hfp
 refine callsIn_wide (n:=0) |>.1 ?_
 refine callsIn_of_wp_marks Tryz.func253 rfl trivial ?_ rfl
 simp only[Tryz.ntmps253,List.size_toArray,List.length_cons,List.length_nil,Nat.reduceAdd,Nat.reduceSub,Array.replicate_succ,Array.replicate_zero,List.push_toArray,List.append_toArray,List.nil_append,List.cons_append]
 gi_wp2
 rw[<- HW1.out]
 refine range_s (gf:=254) (lb:=#[.pointer (some ⟨kb,0,none⟩),.pointer (some ⟨qb,0,none⟩)]) (xs:=zBT M y k) (fp:=fp) (V:=FitV) rfl (enters_of Tryz.func254 (by kernel_rfl) rfl)
  HIT.out (Below.refl _ _) (by rw[HFP.out];intro q h;have:=HS1.out;have:q<w.heap.size:=h;omega)
  (fun Sr pre Z=>ColI w (w1.heap.size+2) Sr pre Z)
  (fun _ _ _ _=>False) ?hI (fun _ _ _ _ _ _ h=>h.elim) ?hV ?h0
  (fun v a' Z=>∃p u1 u2 f0 f1,a'={tmps:=#[.slice none 0 0,f0,.pointer (some ⟨w.heap.size,0,none⟩),undef,.slice none 0 0,.pointer (some ⟨p,0,none⟩),f1,v,undef,undef,undef,undef,undef],defers:=[]}∧v=.agg #[u1,u2]∧w1.heap.size+2<=p∧Z.heap[p]? =some (.cells #[u1,u2] 73 (0,0))) ?hAx ?hassign ?hbody ?hdone ?hstop
 case hI=>
  intro Sr Sr' s A B hIA h1 h2 h3 h4 hk
  exact hIA.keep h2 h3 (by have:=HS1.out;omega) (hk.mono fun k hk=>by have:=HS1.out;exact⟨by omega,by omega,hk.2⟩)
 case hV=>
  intro Sr x v A B hv hk
  exact hv.keep hk (fun k hk=>⟨by omega,by omega⟩)
 case h0=>
  intro Z hk hZ
  have hs1:=HS1.out
  exact⟨hk.below HB1.out HB1.out.size fun k hk=>by omega,hZ,_,(hk.block _ HBX.out.lt (by show _<_;omega)).trans HBX.out,zCB.nil _ _ _⟩
 case hAx=>
  rintro v a' A B ⟨p,u1,u2,f0,f1,e1,e2,hp,hc⟩ hk
  exact⟨p,u1,u2,f0,f1,e1,e2,hp,(hk.block p (Array.getElem?_eq_some_iff.1 hc).1 ⟨by omega,by omega⟩).trans hc⟩
 case hassign=>
  rintro l Sr x v Z K hZ ⟨pa,pn,pc,va,vn,vc,rfl,_⟩ hK
  gi_wp2
  refine hK _ _ ((Below.refl _ _).alloc (Nat.le_refl _) _) ⟨Z.heap.size,_,_,_,_,rfl,rfl,hZ,World.alloc_heap_new Z _⟩
 case hbody=>
  rintro l' Sr pre f _ _ Z hpre hSr hI hv ⟨p,u1,u2,f0,f1,rfl,rfl,hp,hpc⟩ hZ hDo hLo
  obtain⟨v,hvb,hro⟩:=hI.o
  have hFC:FitC Z (fun q=>w1.heap.size+2<=q∧¬Sr q) u1 u2 f:=hv.fitC fun b h1 h2 h3=>⟨h1,h3⟩
  have hcnt:pre.length+1<=11264:=by have h1:=HCNT.out;have h2:=hpre.length_le;simp at h2;omega
  obtain⟨pa,pn,pc,va,vn,vc,e1,e2,_⟩:=id hFC
  subst e1 e2
  have hp0:Z.cell? ⟨p,0,none⟩=some (.slice pa pn pc):=by simp[World.cell?,hpc]
  have hp1:Z.cell? ⟨p,1,none⟩=some (.slice va vn vc):=by simp[World.cell?,hpc]
  have hbc:=hvb.cell
  obtain⟨xs,ho,hg,he⟩:=hro
  obtain⟨i0,hi0,hz0,hz1,hz2⟩:=info_parts info_fit
  have HI:=hid hI
  have HVB:=hid hvb
  have HO:=hid ho
  have HG:=hid hg
  have HE:=hid he
  have HFC:=hid hFC
  have HSR:=hid hSr
  have M1:=hid (show pre.length+1<=maxLen by unfold maxLen;omega)
  have M2:=hid (show(pre.length+1)*48<=140737488355328 by omega)
  have M3:=hid (show w1.heap.size+2<=(Z.alloc (.cells #[.slice pa pn pc,.slice va vn vc] 73)).heap.size by simp;omega)
  have HZ:=hid hZ
  clear hI hvb ho hg he hFC hSr hpre hv hcnt hDo hLo hpc
  gi_wp2_with (gi_at_builtin;go_loud (refine wpListIn_append_own_at _ rfl _ _ 87 rfl (w1.heap.size+2) 73 i0 (.agg #[.slice none 0 0,.slice none 0 0]) 2 48 Tryz.underlying87 hi0 hz0 hz1 hz2 rfl (by decide) v _ _ rfl (HO.out.alloc _) ⟨Z.heap.size,0,none⟩ 1 1 [.slice pa pn pc,.slice va vn vc] rfl rfl (newsD Z _ _ _) (by intro u hu;simp at hu;rcases hu with rfl|rfl<;>rfl) M1.out M2.out M3.out ?_;refine Stop.of ?_))
  refine Stop.go ?_
  intro v5 w9 own5 g5 _ hat5
  obtain⟨a5,c5,rfl⟩:=zAG own5
  have hob:∀q,v.ownBlock=some q->w1.heap.size+2<=q∧¬Sr q:=fun q hq=>HG.out q hq
  have hs1:=HS1.out
  have hzz:=HZ.out
  have hZ1:Below Z.heap.size Z (Z.alloc (.cells #[.slice pa pn pc,.slice va vn vc] 73)):=(Below.refl _ _).alloc (Nat.le_refl _) _
  have hK9:Keep (fun q=>some q≠v.ownBlock) Z w9:=(Keep.of_below hZ1).trans (Keep.grown g5)
  have hS5:∀q,(Value.slice a5 (pre.length+1) c5).ownBlock=some q->w1.heap.size+2<=q∧¬Sr q:=fun q hq=>by
   rcases hat5 with e|e
   ·exact hob q (by rw[<- e];exact hq)
   ·rw[e]at hq
    cases hq
    exact⟨by omega,fun hs=>by have:=(HSR.out _ hs).2;omega⟩
  have hF9:zCB w9 (w1.heap.size+2) (fun q=>w1.heap.size+2<=q∧¬Sr q) (.slice a5 (pre.length+1) c5) (pre++[f]):=zCB.snoc HO.out HE.out HFC.out hZ1 g5 own5 hS5
  have hbx9:Boxed w9 w.heap.size 87 v:=(hK9.block _ HVB.out.lt (by intro e;have:=(hob _ e.symm).1;omega)).trans HVB.out
  have hc9:=hbx9.cell
  have hf9:=hbx9.frozen
  obtain⟨wA,hwA⟩:=exq (w9.setCell ⟨w.heap.size,0,none⟩ (.slice a5 (pre.length+1) c5))
  have kA:Keep (fun q=>q≠w.heap.size) w9 wA:=by rw[hwA];exact Keep.set w9 _ 0 _
  have nA:Boxed wA w.heap.size 87 (.slice a5 (pre.length+1) c5):=by rw[hwA];exact hbx9.set _
  have HA:=hid (And.intro nA (And.intro kA (And.intro hF9 hK9)))
  have HWA:=hid hwA
  have HOB:=hid hob
  clear own5 g5 hat5 hob hK9 hS5 hF9 hbx9 hwA kA nA hs1 hzz hZ1 hi0 hz0 hz1 hz2
  gi_wp2
  rw[<- HWA.out]
  obtain⟨nA,kA,hF9,hK9⟩:=HA.out
  have hs1:=HS1.out
  have kk:Keep (fun q=>q≠w.heap.size∧some q≠v.ownBlock) Z wA:=(hK9.mono fun q hq=>hq.2).trans (kA.mono fun q hq=>hq.1)
  refine⟨kk.size,fun q hq=>?_,?_⟩
  ·have hq1:q<Z.heap.size∧q≠w.heap.size∧some q≠v.ownBlock:=by
    have hzz:=HZ.out
    rcases hq with h|h|h|h
    ·rw[HFP.out]at h
     have h':q<w.heap.size:=h
     exact⟨by omega,by omega,fun e=>by have:=(HOB.out _ e.symm).1;omega⟩
    ·exact⟨by omega,by omega,fun e=>by have:=(HOB.out _ e.symm).1;omega⟩
    ·exact⟨by omega,by omega,fun e=>by have:=(HOB.out _ e.symm).1;omega⟩
    ·have:=HSR.out q h
     exact⟨this.2,by omega,fun e=>(HOB.out _ e.symm).2 h⟩
   exact kk.block q hq1.1 hq1.2
  ·refine⟨kk.below HI.out.b HI.out.b.size fun q hq=>⟨by omega,fun e=>by have:=(HOB.out _ e.symm).1;omega⟩,Nat.le_trans HZ.out kk.size,_,nA,hF9.keep kA fun q hq _=>⟨by have:=hq.1;omega,hq⟩⟩
 case hdone=>
  intro Sr Z hZ hSr hI hmk
  obtain⟨v,hvb,hro⟩:=hI.o
  have hcv:=hvb.cell
  have HI:=hid hI
  have HRO:=hid hro
  have HMR:=hid hmk
  obtain⟨va,vc,rfl⟩:=hro.slice
  clear hI hvb hro hmk hSr
  gi_wp2
  have hs1:=HS1.out
  refine zDD [w1.heap.size] Z (by simp) (fun h hh=>by rw[List.mem_singleton.1 hh];exact HMR.out) fun w' hk=>?_
  refine⟨_,results_tmp rfl _ _ _,hk.below HI.out.b HI.out.b.size (fun k hk hh=>by rw[List.mem_singleton.1 hh]at hk;omega),_,w1.heap.size+2,rfl,by omega,?_⟩
  exact HRO.out.keep hk (fun q hq _=>⟨fun hh=>by have:=hq.1;rw[List.mem_singleton.1 hh]at this;omega,by have:=hq.1;omega⟩)
 case hstop=>
  intro Sr c pre Z hpre hSr hI hmk
  exact hI.elim
end
section
open Go.RowKit
theorem zMR(w:World)(k kb qb:Nat)(a a2:Option Addr)(n cap n2 cap2:Nat)(M:Mask)(y:List Int)(hn:M.length=n)(hn2:y.length=n2)(hm:n<=maxLen)(hm2:n2<=maxLen)(h1:1<=n)(hW:zAB M<=10)(hk:k<=1000)
 (hkb:kb<w.heap.size)(hqb:qb<w.heap.size)(hck:w.cell? ⟨kb,0,none⟩=some (.int .i64 k))(hcq:w.heap[qb]? =some (.cells #[.slice a n cap,.slice a2 n2 cap2] 216 (0,0)))(H:zAJ w a M)(H2:zAE w a2 y):
 Calls Tryz.prog 233 #[.func (.func 254) #[] #[.pointer (some ⟨kb,0,none⟩),.pointer (some ⟨qb,0,none⟩)]] w fun e w'=>
  Below w.heap.size w w'∧∃v base,e=.returned v∧w.heap.size<=base∧zCB w' base (fun q=>w.heap.size<=q) v (zBT M y k):=by
 have HA:=hid (appendFits_c w k kb qb a a2 n cap n2 cap2 M y hn hn2 hm hm2 h1 hW hk hkb hqb hck hcq H H2)
 clear hn hn2 hm hm2 h1 hW hk hkb hqb hck hcq H H2
 go_enter Tryz.func233,Tryz.ntmps233
 go_wp2_with (go_at_call 253;refine HA.out.mono ?_;rintro e w1 ⟨hb,v,base,rfl,hbs,hf⟩)
 go_ret
 exact⟨hb,v,base,rfl,hbs,hf⟩
theorem collect2_c(X:World)(q:Nat)(a a2:Option Addr)(n cap n2 cap2:Nat)(M:Mask)(y:List Int)(hn:M.length=n)(hn2:y.length=n2)(hm:n<=maxLen)(hm2:n2<=maxLen)(h1:1<=n)(hW:zAB M<=10)(hk:q<=1000)(H:zAJ X a M)(H2:zAE X a2 y)(X2:World)(hX2:X2=(X.alloc (.cells #[.slice a n cap,.slice a2 n2 cap2] 216)).alloc (.cells #[.int .i64 (q:Int)] 3)):
 Calls Tryz.prog 233 #[.func (.func 254) #[] #[.pointer (some ⟨X.heap.size+1,0,none⟩),.pointer (some ⟨X.heap.size,0,none⟩)]] X2 fun e w'=>
  Below X2.heap.size X2 w'∧∃v base,e=.returned v∧X2.heap.size<=base∧zCB w' base (fun q=>X2.heap.size<=q) v (zBT M y q):=by
 have hb2:Below X.heap.size X X2:=by rw[hX2];exact((Below.refl _ X).alloc (Nat.le_refl _) _).alloc (by simp) _
 have e1:X2.heap[X.heap.size]? =some (.cells #[.slice a n cap,.slice a2 n2 cap2] 216 (0,0)):=by
  rw[hX2,Below.heap_alloc _ _ _ (by simp)];exact World.alloc_heap_new _ _
 have e2:X2.cell? ⟨X.heap.size+1,0,none⟩=some (.int .i64 (q:Int)):=by
  have:=World.alloc_heap_new (X.alloc (.cells #[.slice a n cap,.slice a2 n2 cap2] 216)) (.cells #[.int .i64 (q:Int)] 3)
  rw[World.size_alloc,<- hX2]at this
  simp[World.cell?,this]
 have hs:X2.heap.size=X.heap.size+2:=by rw[hX2];simp
 exact zMR X2 q (X.heap.size+1) X.heap.size a a2 n cap n2 cap2 M y hn hn2 hm hm2 h1 hW hk (by omega) (by omega) e2 e1 (H.below hb2) (H2.below hb2)
theorem sparseFits_c(w:World)(a a2:Option Addr)(n cap n2 cap2:Nat)(M:Mask)(y:List Int)(k:Int)(hn:M.length=n)(hn2:y.length=n2)(hm:n<=maxLen)(hm2:n2<=maxLen)(H:zAJ w a M)(H2:zAE w a2 y):
 Calls Tryz.prog 197 #[.slice a n cap,.slice a2 n2 cap2,.int .i64 k] w fun e w'=>Below w.heap.size w w'∧((zEO M y k≠0∧e=.returned (.tuple #[.slice none 0 0,.int .i64 (zEO M y k)]))∨
  (zEO M y k=0∧∃v base,e=.returned (.tuple #[v,.int .i64 0])∧w.heap.size<=base∧zCB w' base (fun q=>w.heap.size<=q) v (zBT M y k.toNat))):=by
 have HC:=hid (counted_c w a a2 n cap n2 cap2 M y k hn hn2 hm hm2 H H2)
 by_cases h0:zEO M y k=0
 ·obtain⟨hM,hyn,hyB,_⟩:=zHL (show zBJ M y []=0 by
   unfold zEO at h0;split at h0
   ·assumption
   ·exact h0)
  have hk:inB k 0 10=true:=by
   unfold zEO at h0;split at h0
   ·cases hb:inB k 0 10
    ·rw[hb]at h0;simp at h0
    ·rfl
   ·contradiction
  obtain⟨hM',h1,h6,hc1,hc10⟩:=zCY hM
  have hkk:∃q:Nat,k=(q:Int)∧q<=10:=⟨k.toNat,by unfold inB at hk;simp at hk;omega,by unfold inB at hk;simp at hk;omega⟩
  obtain⟨q,rfl,hq10⟩:=hkk
  have HCO:=hid (fun(X:World) (hX:Below w.heap.size w X) (X2:World)=>collect2_c X q a a2 n cap n2 cap2 M y hn hn2 hm hm2 (by omega) hc10 (by omega) (H.below hX) (H2.below hX) X2)
  rw[h0]at HC⊢
  rw[Int.toNat_natCast]
  obtain⟨F,hF⟩:=exq (zBT M y q)
  rw[<- hF]at HCO⊢
  clear hn hn2 hm hm2 H H2 h0 hM hyn hyB hk hM' h1 h6 hc1 hc10 hF
  go_enter Tryz.func197,Tryz.ntmps197
  go_wp2_with (go_at_call 232;refine HC.out.mono ?_;rintro e w1 ⟨rfl,hb1⟩;refine Stop.of ?_)
  refine Stop.go ?_
  have HB1:=hid hb1
  clear hb1
  go_wp2_with (go_at_call 234;refine(qfits_c _ _ _ _ _ _ _ _).mono ?_;rintro e w2 ⟨rfl,hw2⟩;have HW2:=hid hw2;clear hw2;refine Stop.of ?_)
  refine Stop.go ?_
  have hco:=HCO.out w1 HB1.out w2 HW2.out
  have HC2:=hid hco
  have HB12:=hid (show Below w1.heap.size w1 w2 by rw[HW2.out];exact((Below.refl _ w1).alloc (Nat.le_refl _) _).alloc (by simp) _)
  clear hco
  go_wp2_with (go_at_call 233;refine HC2.out.mono ?_;rintro e w3 ⟨hb3,v,base,rfl,hbs,hf⟩)
  go_ret2
  exact⟨zAA HB1.out (zAA HB12.out hb3),.inr ⟨trivial,v,base,rfl,by have:=HB1.out.size;have:=HB12.out.size;omega,hf.keep (Keep.refl (fun _=>True) _) fun q hq _=>⟨trivial,by have:=HB1.out.size;have:=HB12.out.size;omega⟩⟩⟩
 ·have hne:(zEO M y k !=0)=true:=by simpa using h0
  have H0:=hid h0
  obtain⟨E,hE⟩:=exq (zEO M y k)
  rw[<- hE]at HC hne H0⊢
  clear hn hn2 H H2 h0 hE
  go_enter Tryz.func197,Tryz.ntmps197
  go_wp2_with (go_at_call 232;refine HC.out.mono ?_;rintro e w1 ⟨rfl,hb1⟩)
  go_ret2
  exact⟨hb1,.inl ⟨H0.out,rfl⟩⟩
theorem dfits_c(w:World)(a a2:Option Addr)(n cap n2 cap2:Nat)(M:Mask)(y:List Int)(hn:M.length=n)(hn2:y.length=n2)(hm:n<=maxLen)(hm2:n2<=maxLen)(H:zAJ w a M)(H2:zAE w a2 y)(h0:zBJ M y []=0):
 Calls Tryz.prog 135 #[.agg #[.slice a n cap,.slice a2 n2 cap2]] w fun e w'=>Below w.heap.size w w'∧∃v base,e=.returned v∧w.heap.size<=base∧zCB w' base (fun q=>w.heap.size<=q) v (zBT M y 10):=by
 obtain⟨wz,hwz⟩:=exq (w.alloc (.cells #[.slice a n cap,.slice a2 n2 cap2] 86))
 have hbz:Below w.heap.size w wz:=by rw[hwz];exact(Below.refl _ _).alloc (Nat.le_refl _) _
 have l0:wz.cell? ⟨w.heap.size,0,none⟩=some (.slice a n cap):=by rw[hwz,World.cell?_alloc_at _ _ _ _ rfl];rfl
 have l1:wz.cell? ⟨w.heap.size,1,none⟩=some (.slice a2 n2 cap2):=by rw[hwz,World.cell?_alloc_at _ _ _ _ rfl];rfl
 have hc:zEO M y 10=0:=by unfold zEO;rw[if_pos h0];decide
 have HF:=hid (sparseFits_c wz a a2 n cap n2 cap2 M y 10 hn hn2 hm hm2 (H.below hbz) (H2.below hbz))
 rw[hc]at HF
 have HBZ:=hid hbz
 obtain⟨F,hF⟩:=exq (zBT M y 10)
 have hF2:F=zBT M y (10:Int).toNat:=hF
 rw[<- hF]
 rw[<- hF2]at HF
 have HW:=hid hwz
 clear hn hn2 hm hm2 H H2 h0 hbz hc hF hF2 hwz
 go_enter Tryz.func135,Tryz.ntmps135
 go_upto_region 1 with fail
 rw[<- HW.out]
 go_wp2_with (go_at_call 197;refine HF.out.mono ?_;rintro e w3 ⟨hb3,⟨hx,_⟩|⟨_,v,base,rfl,hbs,hf⟩⟩;first|exact absurd rfl hx|skip)
 go_ret
 exact⟨zAA HBZ.out hb3,v,base,rfl,Nat.le_trans HBZ.out.size hbs,hf.keep (Keep.refl (fun _=>True) _) fun q hq _=>⟨trivial,Nat.le_trans HBZ.out.size hq⟩⟩
end
section
open Go.RowKit
theorem AnyT.weak{P:Program}{md:Region.Mode}{ops:Array Oper}{Q:Exit->Act->World->Prop}{T T':Nat->World->Prop}(hT:∀j w,T' j w->T j w):∀(fuel:Nat) (listed:Array Bool) (a:Act) (w:World),AnyT P md ops Q T' fuel listed a w->AnyT P md ops Q T fuel listed a w
 |0,_,_,_,h=>h
 |fuel+1,listed,a,w,h=>⟨h.1,fun i hi=>wpOp_mono (fun a' w' h'=>⟨hT _ _ h'.1,AnyT.weak hT fuel _ _ _ h'.2⟩) (h.2 i hi)⟩
theorem AnyT.takeG{P:Program}{md:Region.Mode}{ops:Array Oper}{Q:Exit->Act->World->Prop}{S:World->Prop}{T:Nat->World->Prop}{i d:Nat}{oi:Oper}{v:Value}{fuel:Nat}{listed:Array Bool}{a:Act}{w:World}{Wf:Nat->Bool}(hT:∀j w,T j w->Wf j=true->S w)(hTi:∀w,S w->T i w)(hi:ops[i]? =some oi)(hd:oi.dst=some d)
 (hs:Region.noSelect ops=true)(hf:Region.free md ops listed i=true)(hr:(Region.ready md ops listed).contains i=true)
 (hQ:∀c a w,Q (.panic c) (a.put (some d) v) w->Q (.panic c) a w)
 (hW:(List.range ops.size).all (fun j=>waits md ops i j||Wf j)=true)(hw:Region.wanted oi (yielded ops a.tmps)=true)(hy:∀w,S w->(execOp a.eval oi).run P w=.ok (.value v) w)(hS:S w)
 (h:AnyT P md ops Q T fuel (listed.setIfInBounds i true) (a.put (some d) v) w):AnyT P md ops Q T (fuel+1) listed a w:=
 AnyT.take hi hs hf hr (by rw[hd];exact hQ) (fun j hj w hT'=>hT j w hT' (by
  by_cases e:j<ops.size
  ·have:=List.all_eq_true.1 hW j (List.mem_range.2 e)
   rw[hj]at this;simpa using this
  ·unfold waits at hj;rw[Array.getElem?_eq_none (by omega)]at hj;cases hj)) hTi (.inl ⟨hw,hy⟩) hS (by rw[hd];exact h)
end
section
open Go.RowKit
def zBF(w:World)(g:Nat)(V:Int):Prop:=w.heap[g]? =some (.cells #[.int .i64 (V/18446744073709551616),.int .u64 (V%18446744073709551616)] 100 (0,0))
theorem zBF.lt{w:World}{g:Nat}{V:Int}(h:zBF w g V):g<w.heap.size:=(Array.getElem?_eq_some_iff.1 h).1
theorem zBF.keep{w w':World}{g:Nat}{V:Int}(h:zBF w g V)(hk:w'.heap[g]? =w.heap[g]?):zBF w' g V:=hk.trans h
theorem zBF.cells{w:World}{g:Nat}{V a b:Int}(h:zBF w g V)(p:WP V a b):w.cell? ⟨g,0,none⟩=some (.int .i64 a)∧w.cell? ⟨g,1,none⟩=some (.int .u64 b)∧w.frozen? ⟨g,0,none⟩=false∧w.frozen? ⟨g,1,none⟩=false∧g<w.heap.size:=by
 have hl:=h.lt
 unfold zBF at h
 rw[p.1,p.2]
 exact⟨by simp[World.cell?,h],by simp[World.cell?,h],by simp[World.frozen?,h],by simp[World.frozen?,h],hl⟩
theorem zBF.set{w:World}{g:Nat}{V U a b:Int}(h:zBF w g V)(p:WP U a b):zBF ((w.setCell ⟨g,0,none⟩ (.int .i64 a)).setCell ⟨g,1,none⟩ (.int .u64 b)) g U:=by
 have h1:=zAW h 0 (v:=.int .i64 a)
 have h2:=zAW h1 1 (v:=.int .u64 b)
 unfold zBF
 rw[h2,p.1,p.2];rfl
theorem zBH(w:World)(b:Nat)(x y:Value):Keep (fun g=>g≠b) w ((w.setCell ⟨b,0,none⟩ x).setCell ⟨b,1,none⟩ y):=(Keep.set w b 0 x).trans (Keep.set _ b 1 y)
theorem zBF.other{w:World}{g b:Nat}{V:Int}(h:zBF w g V)(hn:g≠b)(x y:Value):zBF ((w.setCell ⟨b,0,none⟩ x).setCell ⟨b,1,none⟩ y) g V:=h.keep ((zBH w b x y).block g h.lt hn)
theorem zBF.made(w:World){V a b:Int}(p:WP V a b):zBF (w.alloc (.cells #[.int .i64 a,.int .u64 b] 100)) w.heap.size V:=by
 unfold zBF
 rw[World.alloc_heap_new,p.1,p.2]
theorem zHS(j:Nat):(0:Int)<2 ^ j:=Int.pow_pos (by decide)
def OverS(A B:Int)(j:Nat)(q r t:Int):Prop:=0<=q∧0<=r∧r<B∧0<=t∧t<=1∧(r+r+t<B->A/2 ^ j/B=q+q∧A/2 ^ j%B=r+r+t)∧(¬r+r+t<B->A/2 ^ j/B=q+q+1∧A/2 ^ j%B=r+r+t-B)
theorem over_step{A B:Int}(hB:0<B)(hA:0<=A)(j:Nat){q r t:Int}(hq:q=A/2 ^ (j+1)/B)(hr:r=A/2 ^ (j+1)%B)(ht:t=A/2 ^ j%2):
 OverS A B j q r t:=by
 have e:A/2 ^ (j+1)=A/2 ^ j/2:=by rw[Int.pow_succ,Int.ediv_ediv_of_nonneg (by have:=zHS j;omega)]
 obtain⟨T,hT⟩:=exq (A/2 ^ j)
 have hT0:0<=T:=by rw[hT];exact Int.ediv_nonneg hA (by have:=zHS j;omega)
 unfold OverS
 rw[e,<- hT]at hq hr
 rw[<- hT]at ht⊢
 have h1:=Int.emod_add_mul_ediv (T/2) B
 have h2:=Int.emod_nonneg (T/2) (show B≠0 by omega)
 have h3:=Int.emod_lt_of_pos (T/2) hB
 have h4:0<=T/2/B:=Int.ediv_nonneg (by omega) (by omega)
 rw[<- hq,<- hr]at h1
 rw[<- hr]at h2 h3
 rw[<- hq]at h4
 have hTt:T=2*(r+B*q)+t:=by omega
 refine⟨h4,h2,h3,by omega,by omega,fun h=>?_,fun h=>?_⟩
 ·have hx:T=(r+r+t)+(q+q)*B:=by rw[hTt];grind
  rw[hx,Int.add_mul_ediv_right _ _ (by omega),Int.ediv_eq_zero_of_lt (by omega) h,Int.add_mul_emod_self_right,Int.emod_eq_of_lt (by omega) h]
  omega
 ·have hx:T=(r+r+t-B)+(q+q+1)*B:=by rw[hTt];grind
  rw[hx,Int.add_mul_ediv_right _ _ (by omega),Int.ediv_eq_zero_of_lt (by omega) (by omega),Int.add_mul_emod_self_right,Int.emod_eq_of_lt (by omega) (by omega)]
  omega
theorem bit_low{A:Int}(hA:0<=A){j:Nat}(hj:j<64):A%18446744073709551616/2 ^ j%2=A/2 ^ j%2:=by
 have hp:=zHS j
 have e1:(18446744073709551616:Int)=2 ^ j*(2*2 ^ (63-j)):=by
  have:(2:Int) ^ j*(2*2 ^ (63-j))=2 ^ (j+(1+(63-j))):=by rw[Int.pow_add,Int.pow_add];rfl
  rw[this,show j+(1+(63-j))=64 by omega];rfl
 have h1:=Int.emod_add_mul_ediv A 18446744073709551616
 generalize A%18446744073709551616=a at*
 generalize A/18446744073709551616=h at*
 rw[<- h1,e1]
 have e2:a+2 ^ j*(2*2 ^ (63-j))*h=a+2 ^ j*(2*(2 ^ (63-j)*h)):=by grind
 rw[e2,Int.add_mul_ediv_left _ _ (by omega)]
 omega
theorem bit_high{A:Int}(j:Nat)(hj:64<=j):A/18446744073709551616/2 ^ (j-64)=A/2 ^ j:=by
 rw[Int.ediv_ediv_of_nonneg (by decide)]
 congr 1
 have:(18446744073709551616:Int)*2 ^ (j-64)=2 ^ (64+(j-64)):=by rw[Int.pow_add];rfl
 rw[this,show 64+(j-64)=j by omega]
theorem zHP(w:World)(V:Int)(hV: -170141183460469231731687303715884105728<V∧V<170141183460469231731687303715884105728):
 Calls Tryz.prog 148 #[zBW V] w fun e w'=>e=.returned (.int .i64 (cmpI V 0))∧Below w.heap.size w w':=by
 have HC:=hid (fun X=>zCZ X V 0)
 have hw0:zBW 0=.agg #[.int .i64 0,.int .u64 0]:=by simp[zBW]
 rw[hw0]at HC
 obtain⟨a,b,p⟩:=WP.ex V
 rw[p.val]at HC⊢
 obtain⟨C,hC⟩:=exq (cmpI V 0)
 rw[<- hC]at HC⊢
 clear p hC hV hw0
 go_enter Tryz.func148,Tryz.ntmps148
 go_wp2_with (go_at_call 207;refine(HC.out _).mono ?_;rintro e w1 ⟨rfl,hb1⟩)
 go_ret
 exact⟨rfl,zAA ((Below.refl _ _).alloc (Nat.le_refl _) _) hb1⟩
theorem zLW(w:World)(A B:Int)(hA:0<=A∧A<170141183460469231731687303715884105728)(hB:0<B∧B<85070591730234615865843651857942052864):
 Calls Tryz.prog 150 #[zBW A,zBW B] w fun e w'=>e=.returned (.tuple #[zBW (A/B),zBW (A%B)])∧Below w.heap.size w w':=by
 obtain⟨ah,al,pA⟩:=WP.ex A
 obtain⟨bh,bl,pB⟩:=WP.ex B
 obtain⟨s,hs⟩:=exq (w.heap.size)
 obtain⟨wz,hwz⟩:=exq ((((w.alloc (.cells #[.int .i64 ah,.int .u64 al] 100)).alloc (.cells #[.int .i64 bh,.int .u64 bl] 100)).alloc (.cells #[.int .i64 0,.int .u64 0] 100)).alloc (.cells #[.int .i64 0,.int .u64 0] 100))
 have p0:WP 0 0 0:=⟨by decide,by decide⟩
 have hbz:Below w.heap.size w wz:=by rw[hwz];exact((((Below.refl _ _).alloc (Nat.le_refl _) _).alloc (by simp) _).alloc (by simp;omega) _).alloc (by simp;omega) _
 have hsz:wz.heap.size=s+4:=by rw[hwz,hs];simp
 have qa:zBF wz s A:=by
  rw[hwz,hs]
  exact(((zBF.made w pA).keep (Below.heap_alloc _ _ _ (by simp))).keep (Below.heap_alloc _ _ _ (by simp;omega))).keep (Below.heap_alloc _ _ _ (by simp;omega))
 have qb:zBF wz (s+1) B:=by
  have h:=zBF.made (w.alloc (.cells #[.int .i64 ah,.int .u64 al] 100)) pB
  rw[World.size_alloc]at h
  rw[hwz,hs]
  exact(h.keep (Below.heap_alloc _ _ _ (by simp))).keep (Below.heap_alloc _ _ _ (by simp))
 have qq:zBF wz (s+2) 0:=by
  have h:=zBF.made ((w.alloc (.cells #[.int .i64 ah,.int .u64 al] 100)).alloc (.cells #[.int .i64 bh,.int .u64 bl] 100)) p0
  rw[World.size_alloc,World.size_alloc]at h
  rw[hwz,hs]
  exact h.keep (Below.heap_alloc _ _ _ (by simp))
 have qr:zBF wz (s+3) 0:=by
  have h:=zBF.made (((w.alloc (.cells #[.int .i64 ah,.int .u64 al] 100)).alloc (.cells #[.int .i64 bh,.int .u64 bl] 100)).alloc (.cells #[.int .i64 0,.int .u64 0] 100)) p0
  rw[World.size_alloc,World.size_alloc,World.size_alloc]at h
  rw[hwz,hs]
  exact h
 have HST:=hid (show ∀j:Nat,OverS A B j (A/2 ^ (j+1)/B) (A/2 ^ (j+1)%B) (A/2 ^ j%2)from fun j=>over_step hB.1 hA.1 j (q:=A/2 ^ (j+1)/B) (r:=A/2 ^ (j+1)%B) (t:=A/2 ^ j%2) rfl rfl rfl)
 have HTOP:=hid (show A/2 ^ 128/B=0∧A/2 ^ 128%B=0 from by
  have e:A/2 ^ 128=0:=Int.ediv_eq_zero_of_lt hA.1 (by have:=hA.2;omega)
  rw[e];simp)
 have hQB:=hid (fun(j:Nat)=>show A/2 ^ j/B<=A from by
  have h1:A/2 ^ j<=A:=Int.ediv_le_self _ hA.1
  have h2:A/2 ^ j/B<=A/2 ^ j:=Int.ediv_le_self _ (Int.ediv_nonneg hA.1 (by have:=zHS j;omega))
  omega)
 rw[pA.val,pB.val]
 have HBZ:=hid hbz
 have HSZ:=hid hsz
 have QA:=hid qa
 have QB:=hid qb
 have PA:=hid pA
 have PB:=hid pB
 clear hbz hsz qa qb
 go_enter Tryz.func150,Tryz.ntmps150
 go_wp2_with fail
 rw[<- hs,<- hwz]
 have HSV:=hid hs
 have HP0:=hid p0
 have HAA:=hid hA
 have HBB:=hid hB
 clear hwz hs p0 hA hB pA pB
 go_loopw [6] (fun i wr=>∃k:Nat,k<=128∧i=.int .i64 ((k:Int)-1)∧Keep (fun g=>g≠s+2∧g≠s+3) wz wr∧zBF wr (s+2) (A/2 ^ k/B)∧zBF wr (s+3) (A/2 ^ k%B)) (fun i _=>(intOf i+1).toNat)
 case atStart=>exact⟨128,by omega,rfl,Keep.refl _ _,by rw[HTOP.out.1];exact qq,by rw[HTOP.out.2];exact qr⟩
 case round=>
  obtain⟨k,hk,rfl,hkp,hq,hr⟩:=hrel
  have hsz:=HSZ.out
  cases k with
  |succ j=>
   have hj0:(((j+1:Nat):Int)-1)=(j:Int):=by omega
   rw[hj0]
   obtain⟨q,hqe⟩:=exq (A/2 ^ (j+1)/B)
   obtain⟨r,hre⟩:=exq (A/2 ^ (j+1)%B)
   obtain⟨t,hte⟩:=exq (A/2 ^ j%2)
   have hst:=HST.out j
   unfold OverS at hst
   rw[<- hqe,<- hre,<- hte]at hst
   rw[<- hqe]at hq
   rw[<- hre]at hr
   have hA':=hkp.block s (by omega) (by show s≠s+2∧s≠s+3;omega)
   have qa:=QA.out.keep hA'
   obtain⟨c0,c1,_,_,_⟩:=qa.cells PA.out
   have ht2:0<=t∧t<=1:=by omega
   have hqn:=hst.2.2.2.2.2
   have hst2:0<=r∧r<B:=⟨hst.2.1,hst.2.2.1⟩
   have QBW:=hid (QB.out.keep (hkp.block (s+1) (by omega) (by show s+1≠s+2∧s+1≠s+3;omega)))
   have hqe':=hqe
   have hqq2':q+q<=A:=by
    rcases Int.lt_or_le (r+r+t) B with c|c
    ·have:=(hst.2.2.2.2.2.1 c).1;have:=hQB.out j;omega
    ·have:=(hst.2.2.2.2.2.2 (by omega)).1;have:=hQB.out j;omega
   have HSTP:=hid hst
   have HQ:=hid hq
   have HR:=hid hr
   have HKP:=hid hkp
   have hj127:j<=127:=by omega
   clear hst hq hr hkp qa hA' hj0 hqe hre hk
   obtain⟨r1,r2,pr⟩:=WP.ex r
   obtain⟨k1,k2,pk⟩:=WP.ex q
   obtain⟨x1,x2,px⟩:=WP.ex (r+r)
   obtain⟨y1,y2,py⟩:=WP.ex (r+r+t)
   obtain⟨z1,z2,pz⟩:=WP.ex (q+q)
   have hr0:=HR.out
   obtain⟨d0,d1,d2,d3,d4⟩:=hr0.cells pr
   have hq0:=HQ.out
   obtain⟨e0,e1,e2,e3,e4⟩:=hq0.cells pk
   have hAA:=HAA.out
   have hBB:=HBB.out
   have hst:=HSTP.out
   have hpt:zBW t=.agg #[.int .i64 0,.int .u64 t]:=by
    unfold zBW
    rw[show t/18446744073709551616=0 by omega,show t%18446744073709551616=t by omega]
   have hP1:=hid (show ∀X:World,Calls Tryz.prog 161 #[.agg #[.int .i64 r1,.int .u64 r2],.agg #[.int .i64 r1,.int .u64 r2]] X fun e w'=>e=.returned (.agg #[.int .i64 x1,.int .u64 x2])∧Below X.heap.size X w' from fun X=>by
    have:=zHQ X r r (by omega) (by omega) (by omega)
    rw[pr.val,px.val]at this;exact this)
   have hP2:=hid (show ∀X:World,Calls Tryz.prog 161 #[.agg #[.int .i64 x1,.int .u64 x2],.agg #[.int .i64 0,.int .u64 t]] X fun e w'=>e=.returned (.agg #[.int .i64 y1,.int .u64 y2])∧Below X.heap.size X w' from fun X=>by
    have:=zHQ X (r+r) t (by omega) (by omega) (by omega)
    rw[px.val,hpt,py.val]at this;exact this)
   have hqq:q<=A∧0<=q:=⟨by rw[hqe'];exact hQB.out _,hst.1⟩
   have hqq2:q+q<=A:=hqq2'
   have HQ0:=hid (And.intro hst.1 hqq2')
   have hP3:=hid (show ∀X:World,Calls Tryz.prog 161 #[.agg #[.int .i64 k1,.int .u64 k2],.agg #[.int .i64 k1,.int .u64 k2]] X fun e w'=>e=.returned (.agg #[.int .i64 z1,.int .u64 z2])∧Below X.heap.size X w' from fun X=>by
    have:=zHQ X q q (by omega) (by omega) (by omega)
    rw[pk.val,pz.val]at this;exact this)
   have hbit:(j<64->bits BinOp.and IntKind.u64 (al/2 ^ j) 1=t)∧(64<=j->bits BinOp.and IntKind.u64 (ah/2 ^ (j-64)) 1=t)∧IntKind.u64.wrap ah=ah:=by
    have e1:=PA.out.1
    have e2:=PA.out.2
    refine⟨fun h=>?_,fun h=>?_,?_⟩
    ·have h1:0<=al/2 ^ j:=Int.ediv_nonneg (by omega) (by have:=zHS j;omega)
     have h2:al/2 ^ j<=al:=Int.ediv_le_self _ (by omega)
     rw[and_one_u64 _ h1 (by omega),e2,hte]
     exact bit_low hAA.1 h
    ·have h1:0<=ah/2 ^ (j-64):=Int.ediv_nonneg (by omega) (by have:=zHS (j-64);omega)
     have h2:ah/2 ^ (j-64)<=ah:=Int.ediv_le_self _ (by omega)
     rw[and_one_u64 _ h1 (by omega),e1,hte,bit_high j h]
    ·rw[IntKind.wrap_u64];omega
   obtain⟨hb1,hb2,hb3⟩:=hbit
   have HCM:=hid (show ∀X:World,Calls Tryz.prog 207 #[.agg #[.int .i64 y1,.int .u64 y2],.agg #[.int .i64 bh,.int .u64 bl]] X fun e w'=>e=.returned (.int .i64 (cmpI (r+r+t) B))∧Below X.heap.size X w' from fun X=>by
    have:=zCZ X (r+r+t) B
    rw[py.val,PB.out.val]at this;exact this)
   have PR:=hid pr
   have PK:=hid pk
   have PZ:=hid pz
   clear hst hAA hBB hpt hqq hqq2 hqe' hqq2' hte pr pk px pz hr0 hq0
   have PY:=hid py
   clear py
   have HQN:=hid hqn
   have HST2:=hid hst2
   have HK:=hid (fun(X:World) (hX:Below wr.heap.size wr X)=>And.intro (HR.out.keep (hX.block _ HR.out.lt)) (And.intro (HQ.out.keep (hX.block _ HQ.out.lt)) (QBW.out.keep (hX.block _ QBW.out.lt))))
   have HSL:=hid (And.intro HR.out.lt (And.intro HQ.out.lt QBW.out.lt))
   clear hqn hst2
   have h64:(j<64∧bits BinOp.and IntKind.u64 (al/2 ^ j) 1=t)∨(¬j<64∧bits BinOp.and IntKind.u64 (ah/2 ^ (j-64)) 1=t):=by
    by_cases h:j<64
    ·exact .inl ⟨h,hb1 h⟩
    ·exact .inr ⟨h,hb2 (by omega)⟩
   clear hb1 hb2
   rcases h64 with⟨h64,hb1⟩|⟨h64,hb1⟩
   all_goals
    go_upto_region 7 with fail
    clear hb1 hb3
    go_wp2_with (go_at_call 161;refine(hP1.out _).mono ?_;rintro e w1 ⟨rfl,hb1⟩;refine Stop.of ?_)
    refine Stop.go ?_
    have HB1:=hid hb1
    clear hb1
    go_wp2_with (go_at_call 161;refine(hP2.out _).mono ?_;rintro e w2 ⟨rfl,hb2⟩;refine Stop.of ?_)
    refine Stop.go ?_
    have HB2:=hid (zAA HB1.out hb2)
    clear hb2 d0 d1 d2 d3 d4 e0 e1 e2 e3 e4
    obtain⟨m1,m2,m3⟩:=HK.out _ HB2.out
    obtain⟨a0,a1,a2,a3,a4⟩:=m1.cells PR.out
    have M1:=hid (zBF.set m1 PY.out)
    have M2:=hid (m2.other (b:=s+3) (by omega) (.int .i64 y1) (.int .u64 y2))
    have M3:=hid (m3.other (b:=s+3) (by omega) (.int .i64 y1) (.int .u64 y2))
    have KP:=hid (show Keep (fun g=>g≠s+2∧g≠s+3) wr ((w2.setCell ⟨s+3,0,none⟩ (.int .i64 y1)).setCell ⟨s+3,1,none⟩ (.int .u64 y2))from(Keep.of_below HB2.out:Keep (fun g=>g≠s+2∧g≠s+3) _ _).trans ((zBH w2 (s+3) _ _).mono fun g h=>h.2))
    obtain⟨v0,v1,v2,v3,v4⟩:=M1.out.cells PY.out
    obtain⟨g0,g1,g2,g3,g4⟩:=M2.out.cells PK.out
    clear m1 m2 m3
    go_wp2_with (go_at_call 161;refine(hP3.out _).mono ?_;rintro e w3 ⟨rfl,hb3⟩;refine Stop.of ?_)
    refine Stop.go ?_
    have HB3:=hid hb3
    have L1:=hid (M1.out.keep (hb3.block _ M1.out.lt))
    have L2:=hid (M2.out.keep (hb3.block _ M2.out.lt))
    have L3:=hid (M3.out.keep (hb3.block _ M3.out.lt))
    clear hb3 v0 v1 v2 v3 v4 g0 g1 g2 g3 g4 a0 a1 a2 a3 a4
    obtain⟨g0,g1,g2,g3,g4⟩:=L2.out.cells PK.out
    have N2:=hid (zBF.set L2.out PZ.out)
    have N1:=hid (L1.out.other (b:=s+2) (by omega) (.int .i64 z1) (.int .u64 z2))
    have N3:=hid (L3.out.other (b:=s+2) (by omega) (.int .i64 z1) (.int .u64 z2))
    have KN:=hid (KP.out.trans ((Keep.of_below HB3.out:Keep (fun g=>g≠s+2∧g≠s+3) _ _).trans ((zBH w3 (s+2) (.int .i64 z1) (.int .u64 z2)).mono fun g h=>h.1)))
    obtain⟨v0,v1,v2,v3,v4⟩:=N1.out.cells PY.out
    obtain⟨i0,i1,i2,i3,i4⟩:=N3.out.cells PB.out
    go_wp2_with (go_at_call 207;refine(HCM.out _).mono ?_;rintro e w4 ⟨rfl,hb4⟩;refine Stop.of ?_)
    refine Stop.go ?_
    have HB4:=hid hb4
    have O1:=hid (N1.out.keep (hb4.block _ N1.out.lt))
    have O2:=hid (N2.out.keep (hb4.block _ N2.out.lt))
    have O3:=hid (N3.out.keep (hb4.block _ N3.out.lt))
    have KO:=hid (KN.out.trans (Keep.of_below hb4:Keep (fun g=>g≠s+2∧g≠s+3) _ _))
    clear hb4 v0 v1 v2 v3 v4 g0 g1 g2 g3 g4 i0 i1 i2 i3 i4
    by_cases hcb:r+r+t<B
    ·have hc1:¬0<=cmpI (r+r+t) B:=by unfold cmpI;rw[if_pos hcb];decide
     go_wp2
     obtain⟨n1,n2⟩:=HQN.out.1 hcb
     exact⟨⟨j,by omega,rfl,HKP.out.trans KO.out,by rw[n1];exact O2.out,by rw[n2];exact O1.out⟩,by simp[intOf]⟩
    ·have hc1:0<=cmpI (r+r+t) B:=by unfold cmpI;rw[if_neg hcb];split<;>decide
     obtain⟨o1,o2,po⟩:=WP.ex (-B)
     obtain⟨f1,f2,pf⟩:=WP.ex (r+r+t-B)
     obtain⟨h1,h2,ph⟩:=WP.ex (q+q+1)
     have hBB:=HBB.out
     have hAA:=HAA.out
     have hst2:=HST2.out
     have hq0:=HQ0.out
     have hw1:zBW 1=.agg #[.int .i64 0,.int .u64 1]:=by simp[zBW]
     have HC1:=hid (show ∀X:World,Calls Tryz.prog 149 #[.agg #[.int .i64 bh,.int .u64 bl]] X fun e w'=>e=.returned (.agg #[.int .i64 o1,.int .u64 o2])∧Below X.heap.size X w' from fun X=>by
      have:=zJI X B (by omega)
      rw[PB.out.val,po.val]at this;exact this)
     have HC2:=hid (show ∀X:World,Calls Tryz.prog 161 #[.agg #[.int .i64 y1,.int .u64 y2],.agg #[.int .i64 o1,.int .u64 o2]] X fun e w'=>e=.returned (.agg #[.int .i64 f1,.int .u64 f2])∧Below X.heap.size X w' from fun X=>by
      have:=zHQ X (r+r+t) (-B) (by omega) (by omega) (by omega)
      rw[show r+r+t+ -B=r+r+t-B by omega]at this
      rw[PY.out.val,po.val,pf.val]at this;exact this)
     have HC3:=hid (show ∀X:World,Calls Tryz.prog 161 #[.agg #[.int .i64 z1,.int .u64 z2],.agg #[.int .i64 0,.int .u64 1]] X fun e w'=>e=.returned (.agg #[.int .i64 h1,.int .u64 h2])∧Below X.heap.size X w' from fun X=>by
      have:=zHQ X (q+q) 1 (by omega) (by omega) (by omega)
      rw[PZ.out.val,hw1,ph.val]at this;exact this)
     have PF:=hid pf
     have PH:=hid ph
     clear po pf ph hBB hAA hst2 hq0 hw1 ht2
     go_wp2
     refine zAK (fun j X=>decide (j<8∧j≠5)=true->X.cell? ⟨s+2,0,none⟩=some (.int .i64 z1)∧X.cell? ⟨s+2,1,none⟩=some (.int .u64 z2)) (by kernel_rfl) ?_
     have HS:=hid (show ∀X:World,Below w4.heap.size w4 X->X.cell? ⟨s+3,0,none⟩=some (.int .i64 y1)∧X.cell? ⟨s+3,1,none⟩=some (.int .u64 y2)∧X.cell? ⟨s+1,0,none⟩=some (.int .i64 bh)∧X.cell? ⟨s+1,1,none⟩=some (.int .u64 bl)∧X.cell? ⟨s+2,0,none⟩=some (.int .i64 z1)∧X.cell? ⟨s+2,1,none⟩=some (.int .u64 z2)from fun X hX=>by
      obtain⟨a0,a1,_⟩:=(O1.out.keep (hX.block _ O1.out.lt)).cells PY.out
      obtain⟨b0,b1,_⟩:=(O3.out.keep (hX.block _ O3.out.lt)).cells PB.out
      obtain⟨c0,c1,_⟩:=(O2.out.keep (hX.block _ O2.out.lt)).cells PZ.out
      exact⟨a0,a1,b0,b1,c0,c1⟩)
     have hbd:Below w4.heap.size w4 w4.drew:=(Below.refl _ _).drew
     generalize w4.drew=wd at hbd⊢
     have hS:=HS.out _ hbd
     refine AnyT.takeG (i:=5) (v:=.agg #[.int .i64 0,.int .u64 1]) (S:=fun X=>True) (Wf:=fun j=>true) (fun j w' h hj=>trivial) (fun w' h h5=>absurd h5 (by decide)) rfl rfl (by kernel_rfl) (by kernel_rfl) (by kernel_rfl) (by first|exact(fun _ _ _ h=>h)|exact(fun _ _ _ h=>absurd h.1 (by simp))) (by kernel_rfl) (by rfl) (by rintro w' _;go_simp) trivial ?_;go_frame
     refine AnyT.weak (T:=fun j X=>decide (j<8∧j≠5)=true->X.cell? ⟨s+2,0,none⟩=some (.int .i64 z1)∧X.cell? ⟨s+2,1,none⟩=some (.int .u64 z2)) (T':=fun j X=>decide (j<8)=true->X.cell? ⟨s+2,0,none⟩=some (.int .i64 z1)∧X.cell? ⟨s+2,1,none⟩=some (.int .u64 z2)) (fun j X h (hj:decide (j<8∧j≠5)=true)=>h (decide_eq_true (of_decide_eq_true hj).1)) _ _ _ _ ?_
     refine AnyT.tD (i:=4) (v:=.agg #[.int .i64 z1,.int .u64 z2]) rfl rfl (by rintro w' ⟨q5,q6⟩;go_simp) hS.2.2.2.2 ?_;go_frame
     refine AnyT.weak (T':=fun j X=>(decide (j<7)=true->X.cell? ⟨s+3,0,none⟩=some (.int .i64 y1)∧X.cell? ⟨s+3,1,none⟩=some (.int .u64 y2)∧X.cell? ⟨s+1,0,none⟩=some (.int .i64 bh)∧X.cell? ⟨s+1,1,none⟩=some (.int .u64 bl)∧X.cell? ⟨s+2,0,none⟩=some (.int .i64 z1)∧X.cell? ⟨s+2,1,none⟩=some (.int .u64 z2))∧(decide (j<8)=true->X.cell? ⟨s+2,0,none⟩=some (.int .i64 z1)∧X.cell? ⟨s+2,1,none⟩=some (.int .u64 z2))) (fun j X h=>h.2) _ _ _ _ ?_
     refine AnyT.takeG (i:=0) (v:=.agg #[.int .i64 y1,.int .u64 y2]) (S:=fun X=>X.cell? ⟨s+3,0,none⟩=some (.int .i64 y1)∧X.cell? ⟨s+3,1,none⟩=some (.int .u64 y2)∧X.cell? ⟨s+1,0,none⟩=some (.int .i64 bh)∧X.cell? ⟨s+1,1,none⟩=some (.int .u64 bl)∧X.cell? ⟨s+2,0,none⟩=some (.int .i64 z1)∧X.cell? ⟨s+2,1,none⟩=some (.int .u64 z2)) (Wf:=fun j=>decide (j<7)) (fun j w' h hj=>h.1 hj) (fun w' h=>⟨fun _=>h,fun _=>h.2.2.2.2⟩) rfl rfl (by kernel_rfl) (by kernel_rfl) (by kernel_rfl) (by first|exact(fun _ _ _ h=>h)|exact(fun _ _ _ h=>absurd h.1 (by simp))) (by kernel_rfl) (by rfl) (by rintro w' ⟨q1,q2,q3,q4,q5,q6⟩;go_simp) hS ?_;go_frame
     refine AnyT.takeG (i:=1) (v:=.agg #[.int .i64 bh,.int .u64 bl]) (S:=fun X=>X.cell? ⟨s+3,0,none⟩=some (.int .i64 y1)∧X.cell? ⟨s+3,1,none⟩=some (.int .u64 y2)∧X.cell? ⟨s+1,0,none⟩=some (.int .i64 bh)∧X.cell? ⟨s+1,1,none⟩=some (.int .u64 bl)∧X.cell? ⟨s+2,0,none⟩=some (.int .i64 z1)∧X.cell? ⟨s+2,1,none⟩=some (.int .u64 z2)) (Wf:=fun j=>decide (j<7)) (fun j w' h hj=>h.1 hj) (fun w' h=>⟨fun _=>h,fun _=>h.2.2.2.2⟩) rfl rfl (by kernel_rfl) (by kernel_rfl) (by kernel_rfl) (by first|exact(fun _ _ _ h=>h)|exact(fun _ _ _ h=>absurd h.1 (by simp))) (by kernel_rfl) (by rfl) (by rintro w' ⟨q1,q2,q3,q4,q5,q6⟩;go_simp) hS ?_;go_frame
     refine AnyT.nx (i:=2) rfl ?_
     go_wp2_with (go_at_call 149;refine(HC1.out _).mono ?_;rintro e w5 ⟨rfl,hb5⟩;refine Stop.of ?_)
     refine Stop.go ?_
     have HB5:=hid (zAA hbd hb5)
     clear hb5 hS
     go_wp2
     refine⟨⟨fun _=>HS.out _ HB5.out,fun _=>(HS.out _ HB5.out).2.2.2.2⟩,?_⟩
     refine AnyT.nx (i:=3) rfl ?_
     go_wp2_with (go_at_call 161;refine(HC2.out _).mono ?_;rintro e w6 ⟨rfl,hb6⟩;refine Stop.of ?_)
     refine Stop.go ?_
     have HB6:=hid (zAA HB5.out hb6)
     clear hb6
     go_wp2
     refine⟨⟨fun _=>HS.out _ HB6.out,fun _=>(HS.out _ HB6.out).2.2.2.2⟩,?_⟩
     refine AnyT.nx (i:=6) rfl ?_
     go_wp2_with (go_at_call 161;refine(HC3.out _).mono ?_;rintro e w7 ⟨rfl,hb7⟩;refine Stop.of ?_)
     refine Stop.go ?_
     have HB7:=hid (zAA HB6.out hb7)
     clear hb7
     have R1:=hid (O1.out.keep (HB7.out.block _ O1.out.lt))
     have R2:=hid (O2.out.keep (HB7.out.block _ O2.out.lt))
     go_wp2
     refine⟨⟨fun _=>HS.out _ HB7.out,fun _=>(HS.out _ HB7.out).2.2.2.2⟩,?_⟩
     obtain⟨v0,v1,v2,v3,v4⟩:=R1.out.cells PY.out
     have V1:=hid (zBF.set R1.out PF.out)
     have V2:=hid (R2.out.other (b:=s+3) (by omega) (.int .i64 f1) (.int .u64 f2))
     refine AnyT.nx (i:=7) rfl ?_
     go_wp2
     clear v0 v1 v2 v3 v4
     obtain⟨g0,g1,g2,g3,g4⟩:=V2.out.cells PZ.out
     refine⟨⟨fun h=>absurd h (by decide),fun _=>⟨g0,g1⟩⟩,?_⟩
     have X2:=hid (zBF.set V2.out PH.out)
     have X1:=hid (V1.out.other (b:=s+2) (by omega) (.int .i64 h1) (.int .u64 h2))
     have KX:=hid (KO.out.trans ((Keep.of_below HB7.out:Keep (fun g=>g≠s+2∧g≠s+3) _ _).trans (((zBH w7 (s+3) (.int .i64 f1) (.int .u64 f2)).mono fun g h=>h.2).trans ((zBH _ (s+2) (.int .i64 h1) (.int .u64 h2)).mono fun g h=>h.1))))
     refine AnyT.nx (i:=8) rfl ?_
     go_wp2
     refine⟨⟨fun h=>absurd h (by decide),fun h=>absurd h (by decide)⟩,?_⟩
     refine AnyT.done (by kernel_rfl) ?_ _
     go_wp2
     obtain⟨n1,n2⟩:=HQN.out.2 (by omega)
     exact⟨⟨j,by omega,rfl,HKP.out.trans KX.out,by rw[n1];exact X2.out,by rw[n2];exact X1.out⟩,by simp[intOf]⟩
  |zero=>
   rw[Int.pow_zero,Int.ediv_one]at hq hr
   have HQ:=hid hq
   have HR:=hid hr
   have HKP:=hid hkp
   obtain⟨q1,q2,pq⟩:=WP.ex (A/B)
   obtain⟨r1,r2,pr⟩:=WP.ex (A%B)
   have PQ:=hid pq
   have PR:=hid pr
   have hm1:((0:Nat):Int)-1= -1:=by decide
   rw[hm1]
   have HVQ:=hid pq.val
   have HVR:=hid pr.val
   clear hq hr hkp pq pr hm1
   go_wp2
   refine zAK (fun j X=>wAll j=true->X.cell? ⟨s+2,0,none⟩=some (.int .i64 q1)∧X.cell? ⟨s+2,1,none⟩=some (.int .u64 q2)∧X.cell? ⟨s+3,0,none⟩=some (.int .i64 r1)∧X.cell? ⟨s+3,1,none⟩=some (.int .u64 r2)) (by kernel_rfl) ?_
   have hbd:Below wr.heap.size wr wr.drew:=(Below.refl _ _).drew
   have G2:=hid (HQ.out.keep (hbd.block _ HQ.out.lt))
   have G3:=hid (HR.out.keep (hbd.block _ HR.out.lt))
   have KD:=hid (HKP.out.trans (Keep.of_below hbd:Keep (fun g=>g≠s+2∧g≠s+3) _ _))
   generalize wr.drew=wd at G2 G3 KD⊢
   obtain⟨a0,a1,a2,a3,a4⟩:=G2.out.cells PQ.out
   obtain⟨b0,b1,b2,b3,b4⟩:=G3.out.cells PR.out
   have hS:wd.cell? ⟨s+2,0,none⟩=some (.int .i64 q1)∧wd.cell? ⟨s+2,1,none⟩=some (.int .u64 q2)∧wd.cell? ⟨s+3,0,none⟩=some (.int .i64 r1)∧wd.cell? ⟨s+3,1,none⟩=some (.int .u64 r2):=⟨a0,a1,b0,b1⟩
   refine AnyT.tD (i:=0) (v:=.agg #[.int .i64 q1,.int .u64 q2]) rfl rfl (by rintro w' ⟨x1,x2,x3,x4⟩;go_simp) hS ?_;go_frame
   refine AnyT.tD (i:=1) (v:=.agg #[.int .i64 r1,.int .u64 r2]) rfl rfl (by rintro w' ⟨x1,x2,x3,x4⟩;go_simp) hS ?_;go_frame
   have M2:=hid (zBF.set G2.out PQ.out)
   have M3:=hid (G3.out.other (b:=s+2) (by omega) (.int .i64 q1) (.int .u64 q2))
   refine AnyT.nx (i:=2) rfl ?_
   go_wp2
   clear a0 a1 a2 a3 a4 b0 b1 b2 b3 b4 hS
   obtain⟨a0,a1,a2,a3,a4⟩:=M2.out.cells PQ.out
   obtain⟨b0,b1,b2,b3,b4⟩:=M3.out.cells PR.out
   refine⟨fun _=>⟨a0,a1,b0,b1⟩,?_⟩
   have N3:=hid (zBF.set M3.out PR.out)
   have N2:=hid (M2.out.other (b:=s+3) (by omega) (.int .i64 r1) (.int .u64 r2))
   have KN:=hid (KD.out.trans (((zBH wd (s+2) (.int .i64 q1) (.int .u64 q2)).mono fun g h=>h.1).trans ((zBH _ (s+3) (.int .i64 r1) (.int .u64 r2)).mono fun g h=>h.2)))
   refine AnyT.nx (i:=3) rfl ?_
   go_wp2
   clear a0 a1 a2 a3 a4 b0 b1 b2 b3 b4
   obtain⟨a0,a1,a2,a3,a4⟩:=N2.out.cells PQ.out
   obtain⟨b0,b1,b2,b3,b4⟩:=N3.out.cells PR.out
   refine⟨fun _=>⟨a0,a1,b0,b1⟩,?_⟩
   refine AnyT.done (by kernel_rfl) ?_ _
   have HFB:=hid (KN.out.below HBZ.out (by have:=HSV.out;omega) (fun k hk=>by have:=HSV.out;omega))
   go_wp2
   change bodyPost _ _ _ _ _ ((((wd.setCell ⟨s+2,0,none⟩ (.int .i64 q1)).setCell ⟨s+2,1,none⟩ (.int .u64 q2)).setCell ⟨s+3,0,none⟩ (.int .i64 r1)).setCell ⟨s+3,1,none⟩ (.int .u64 r2))
   generalize (((wd.setCell ⟨s+2,0,none⟩ (.int .i64 q1)).setCell ⟨s+2,1,none⟩ (.int .u64 q2)).setCell ⟨s+3,0,none⟩ (.int .i64 r1)).setCell ⟨s+3,1,none⟩ (.int .u64 r2)=WF at*
   refine bodyPost_ret (v:=.tuple #[.agg #[.int .i64 q1,.int .u64 q2],.agg #[.int .i64 r1,.int .u64 r2]]) ?_ rfl ⟨by rw[HVQ.out,HVR.out],HFB.out⟩
   simp[results,Tryz.results150,go_sem,a0,a1,a2,a3,a4,b0,b1,b2,b3,b4]
end
section
open Go.RowKit
def ValB(x:List Rt):Prop:=∀k,1<=(zAD x k).2∧(zAD x k).2<=400∧ -10000000000<=(zAD x k).1∧(zAD x k).1<=10000000000
theorem valB_of{x:List Rt}(h:x.all zAL=true):ValB x:=fun k=>by
 unfold zAD
 cases e:x[k]? with
 |none=>decide
 |some r=>
  have:=List.all_eq_true.1 h r (List.mem_of_getElem? e)
  rw[zAY]at this
  exact⟨this.1,this.2.1,this.2.2.1,this.2.2.2.1⟩
def sgL(x:List Rt):List Int:=x.map fun r=>if r.1<0 then-1 else 1
theorem sgL_one(x:List Rt):∀k,-1<=vec (sgL x) k∧vec (sgL x) k<=1:=fun k=>by
 unfold vec sgL
 rw[List.getElem?_map]
 cases x[k]? with
 |none=>decide
 |some r=>simp only[Option.map_some,Option.getD_some];split<;>decide
theorem nrm_sum(x:List Rt):∀k,k<=x.length->zCD x k=sumR (sgL x) x k
 |0,_=>rfl
 |k+1,h=>by
  have ih:=nrm_sum x k (by omega)
  have e:vec (sgL x) k=if (zAD x k).1<0 then-1 else 1:=by
   unfold vec sgL zAD
   rw[List.getElem?_map,List.getElem?_eq_getElem (by omega)];rfl
  have h0:vec (sgL x) k≠0:=by rw[e];split<;>decide
  have e2:(zAD x k).1*vec (sgL x) k=((zAD x k).1.natAbs:Int):=by rw[e];split<;>omega
  show((zCD x k).1*(zAD x k).2+(zCD x k).2*((zAD x k).1.natAbs:Int),(zCD x k).2*(zAD x k).2)=(if vec (sgL x) k≠0 then((sumR (sgL x) x k).1*(zAD x k).2+(sumR (sgL x) x k).2*((zAD x k).1*vec (sgL x) k),(sumR (sgL x) x k).2*(zAD x k).2)else sumR (sgL x) x k)
  rw[if_pos h0,ih,e2]
theorem nrm_bnd{x:List Rt}(hx:ValB x){k:Nat}(hk:k<=x.length)(h10:k<=10):(zCD x k).1.natAbs<=10485760000000000000000000000000000000∧1<=(zCD x k).2∧(zCD x k).2.natAbs<=104857600000000000000000000:=by
 rw[nrm_sum x k hk];exact zLA (sgL_one x) hx h10
def SumZ(w:World)(g:Nat):Prop:=w.heap[g]? =some (.cells #[.int .i64 0,.int .u64 0,.int .i64 0,.int .u64 0] 102 (0,0))
theorem SumZ.sumB{w:World}{g:Nat}(h:SumZ w g):SumB w g 0 0:=h
theorem dnorm_c(w:World)(a:Option Addr)(n cap:Nat)(x:List Rt)(hn:x.length=n)(hm:n<=10)(H:zBU w a x)(hx:ValB x):
 Calls Tryz.prog 82 #[.slice a n cap] w fun e w'=>e=.returned (sumV (nrmQ x).1 (nrmQ x).2)∧Below w.heap.size w w':=by
 have HQ:=hid (show nrmQ x=zCD x n by unfold nrmQ;rw[hn])
 have HXI:=hid (fun(X:World) (hX:Below w.heap.size w X)=>H.below hX)
 have HBD:=hid (fun j (hj:j<=n)=>nrm_bnd hx (by omega) (show j<=10 by omega))
 have HBD9:=hid (fun j (hj:j<n)=>(nrm_sum x j (by omega))▸sumR_bnd9 (sgL_one x) hx (show j<=9 by omega))
 have HXV:=hid hx
 have HN:=hid hn
 clear hn H hx
 go_enter Tryz.func82,Tryz.ntmps82
 go_wp2_with (go_at_call 95;refine(zLV _).mono ?_;rintro e w3 ⟨rfl,hb3⟩;refine Stop.of ?_)
 refine Stop.go ?_
 have hz:sumV 0 1=.agg #[.int .i64 0,.int .u64 0,.int .i64 0,.int .u64 1]:=by simp[sumV]
 rw[hz]
 clear hz
 obtain⟨r0,hr0⟩:=exq (w.heap.size)
 obtain⟨w0,hw0⟩:=exq (w.alloc (.cells #[.int .i64 0,.int .u64 0,.int .i64 0,.int .u64 0] 102))
 rw[<- hw0]at hb3
 have hZ0:SumZ w0 r0:=by rw[hw0,hr0];exact World.alloc_heap_new _ _
 have hb0:Below w.heap.size w w0:=by rw[hw0];exact(Below.refl _ _).alloc (Nat.le_refl _) _
 have hZ3:SumZ w3 r0:=(hb3.block _ hZ0.sumB.lt).trans hZ0
 have hbw3:=zAA hb0 hb3
 rw[<- hr0]
 go_wp2_with fail
 obtain⟨wb,hwb⟩:=exq (w3.alloc (.cells #[.int .i64 0,.int .u64 0,.int .i64 0,.int .u64 1] 102))
 obtain⟨g,hg⟩:=exq (w3.heap.size)
 have hsb:SumB wb g 0 1:=by rw[hwb,hg];exact SumB.made w3 ⟨by decide,by decide⟩ ⟨by decide,by decide⟩
 have hZb:SumZ wb r0:=by rw[hwb];exact(Below.heap_alloc _ _ _ hZ3.sumB.lt).trans hZ3
 have hbb:Below w.heap.size w wb:=by rw[hwb];exact hbw3.alloc hbw3.size _
 have hrg:r0<g:=by rw[hg];exact hZ3.sumB.lt
 rw[<- hwb,<- hg]
 have HSB:=hid hsb
 have HZB:=hid hZb
 have HBB:=hid hbb
 have HRG:=hid (show r0<g∧w.heap.size<=r0 from⟨hrg,by rw[hr0];exact Nat.le_refl _⟩)
 clear hwb hg hsb hZb hbb hrg hZ3 hbw3 hb0 hZ0 hw0 hr0 hb3
 go_loopw [9] (fun i wr=>∃t:Nat,t<=n∧i=.int .i64 t∧SumB wr g (zCD x t).1 (zCD x t).2∧SumZ wr r0∧Below w.heap.size w wr) (fun i _=>n-(intOf i).toNat)
 case atStart=>exact⟨0,Nat.zero_le _,rfl,HSB.out,HZB.out,HBB.out⟩
 case round=>
  obtain⟨t,ht,rfl,hsb,hzb,hbt⟩:=hrel
  by_cases htl:t<n
  ·obtain⟨bx,ox,rfl,hbx,hx0,hx1⟩:=(HXI.out wr hbt) t (by rw[HN.out];exact htl)
   have hxt:zAD x t=x[t]'(by rw[HN.out];exact htl):=by unfold zAD;rw[List.getElem?_eq_getElem (by rw[HN.out];exact htl)];rfl
   rw[<- hxt]at hx0 hx1
   have hsr:zCD x (t+1)=((zCD x t).1*(zAD x t).2+(zCD x t).2*((zAD x t).1.natAbs:Int),(zCD x t).2*(zAD x t).2):=rfl
   obtain⟨k1,k2,k3⟩:=HBD.out t (by omega)
   obtain⟨m1,m2,m3⟩:=HBD.out (t+1) (by omega)
   obtain⟨z1,z2⟩:=HBD9.out t htl
   obtain⟨x1,x2,x3,x4⟩:=HXV.out t
   rw[hsr]at m1 m2 m3
   have HSR:=hid hsr
   obtain⟨⟨N,D⟩,hND⟩:∃q,q=zAD x t:=⟨_,rfl⟩
   rw[<- hND]at hx0 hx1 m1 m2 m3 x1 x2 x3 x4 HSR
   obtain⟨⟨sn,sd⟩,hS⟩:∃q,q=zCD x t:=⟨_,rfl⟩
   rw[<- hS]at hsb k1 k2 k3 m1 m2 m3 z1 z2 HSR
   simp only[]at hx0 hx1 m1 m2 m3 x1 x2 x3 x4 HSR hsb k1 k2 k3 z1 z2
   obtain⟨A,hA⟩:∃A:Int,A=(N.natAbs:Int):=⟨_,rfl⟩
   rw[<- hA]at m1 HSR
   have e1:(sn*D).natAbs<=10485760000000000000000000000000000000:=by
    rw[Int.natAbs_mul]
    have:sn.natAbs*D.natAbs<=sn.natAbs*400:=Nat.mul_le_mul_left _ (by omega)
    omega
   have e2:(sd*(A*1)).natAbs<=104857600000000000000000000*10000000000:=by
    rw[Int.mul_one,Int.natAbs_mul]
    exact Nat.mul_le_mul k3 (by omega)
   have HPL:=hid (fun(X:World)=>zMA X sn sd A D 1 (by unfold B127;omega) (by unfold B127;omega) (by omega) (by omega) (by unfold B127;omega) (by unfold B127;omega) (by rw[Int.mul_one];unfold B127;omega) (by unfold B127;omega))
   rw[Int.mul_one]at HPL
   obtain⟨n1,n2,pn⟩:=WP.ex sn
   obtain⟨d1,d2,pd⟩:=WP.ex sd
   obtain⟨s1,s2,pS⟩:=WP.ex (sn*D+sd*A)
   obtain⟨q1,q2,pC⟩:=WP.ex (sd*D)
   rw[pn.sum pd,pS.sum pC]at HPL
   simp only[ratV]at HPL
   have HSS:=hid (fun(X:World) (hX:SumB X g sn sd)=>hX.set pS pC)
   have hcel:=hsb.cells pn pd
   have HPN:=hid (And.intro pn pd)
   have HSX:=hid hsb
   have HZX:=hid hzb
   have HBT:=hid hbt
   have HAN:=hid hA
   clear hsr hbx hxt hsb hzb hbt hcel pn pd pS pC hND hS hA m1 m2 m3 k1 k2 k3 z1 z2 e1 e2
   obtain⟨wx,hwx⟩:=exq (wr.alloc (.cells #[.int .i64 A,.int .i64 D] 29))
   have hbx:Below wr.heap.size wr wx:=by rw[hwx];exact(Below.refl _ _).alloc (Nat.le_refl _) _
   have hsx:=HSX.out.keep (hbx.block _ HSX.out.lt)
   obtain⟨c0,c1,c2,c3,c4⟩:=hsx.cells HPN.out.1 HPN.out.2
   have HWX:=hid hwx
   have HBX:=hid hbx
   have hA0:0<=A∧A<=10000000000:=by have:=HAN.out;omega
   have HIL:=hid (show(t:Int)<(n:Int)by omega)
   have htl2:(t:Int)<(n:Int):=HIL.out
   rw[hwx]at c0 c1 c2 c3 c4
   clear hwx hbx hsx
   have hcase:(N<0∧N= -A)∨(¬N<0∧N=A):=by have:=HAN.out;omega
   rcases hcase with⟨hneg,rfl⟩|⟨hneg,rfl⟩
   all_goals
    go_wp2_with (go_at_call 96;refine(HPL.out _).mono ?_;rintro e w4 ⟨rfl,hb4⟩;refine Stop.of ?_)
    refine Stop.go ?_
    rw[<- HWX.out]at hb4
    have hbt4:=zAA HBX.out hb4
    have hs4:=HSX.out.keep (hbt4.block _ HSX.out.lt)
    clear c0 c1 c2 c3 c4
    obtain⟨c0,c1,c2,c3,c4⟩:=hs4.cells HPN.out.1 HPN.out.2
    have f0:=c4 0
    have f1:=c4 1
    have f2:=c4 2
    have f3:=c4 3
    have HNS:=hid (HSS.out _ hs4)
    obtain⟨w5,hw5⟩:=exq ((((w4.setCell ⟨g,0,none⟩ (.int .i64 s1)).setCell ⟨g,1,none⟩ (.int .u64 s2)).setCell ⟨g,2,none⟩ (.int .i64 q1)).setCell ⟨g,3,none⟩ (.int .u64 q2))
    have HW5:=hid hw5
    have k5:Keep (fun b=>b≠g) w4 w5:=by rw[hw5];exact(((Keep.set w4 g 0 _).trans (Keep.set _ g 1 _)).trans (Keep.set _ g 2 _)).trans (Keep.set _ g 3 _)
    have HK5:=hid k5
    have HB4:=hid hbt4
    clear hw5 k5 hbt4 hb4 hs4
    go_wp2
    rw[<- HW5.out]
    refine⟨⟨t+1,by omega,by go_num,?_,?_,?_⟩,by simp[intOf];omega⟩
    ·rw[HSR.out]
     have:=HNS.out
     rw[<- HW5.out]at this
     exact this
    ·exact(HK5.out.block r0 (Nat.lt_of_lt_of_le HZX.out.sumB.lt HB4.out.size) (by have:=HRG.out.1;omega)).trans ((HB4.out.block r0 HZX.out.sumB.lt).trans HZX.out)
    ·exact HK5.out.below (zAA HBT.out HB4.out) (Nat.le_trans HBT.out.size HB4.out.size) fun b hb=>by have:=HRG.out;omega
  ·obtain rfl:t=n:=by omega
   obtain⟨n1,n2,pn⟩:=WP.ex (zCD x t).1
   obtain⟨d1,d2,pd⟩:=WP.ex (zCD x t).2
   obtain⟨c0,c1,c2,c3,c4⟩:=hsb.cells pn pd
   have z0:wr.cell? ⟨r0,0,none⟩=some (.int .i64 0):=by simp[World.cell?,show wr.heap[r0]? =_ from hzb]
   have z1:wr.cell? ⟨r0,1,none⟩=some (.int .u64 0):=by simp[World.cell?,show wr.heap[r0]? =_ from hzb]
   have z2:wr.cell? ⟨r0,2,none⟩=some (.int .i64 0):=by simp[World.cell?,show wr.heap[r0]? =_ from hzb]
   have z3:wr.cell? ⟨r0,3,none⟩=some (.int .u64 0):=by simp[World.cell?,show wr.heap[r0]? =_ from hzb]
   have y0:∀o,wr.frozen? ⟨r0,o,none⟩=false:=fun o=>by simp[World.frozen?,show wr.heap[r0]? =_ from hzb]
   have y1:=y0 0
   have y2:=y0 1
   have y3:=y0 2
   have y4:=y0 3
   have hr0:=hzb.sumB.lt
   obtain⟨w5,hw5⟩:=exq ((((wr.setCell ⟨r0,0,none⟩ (.int .i64 n1)).setCell ⟨r0,1,none⟩ (.int .u64 n2)).setCell ⟨r0,2,none⟩ (.int .i64 d1)).setCell ⟨r0,3,none⟩ (.int .u64 d2))
   have hs5:SumB w5 r0 (zCD x t).1 (zCD x t).2:=by rw[hw5];exact hzb.sumB.set pn pd
   have HB5:=hid (show Below w.heap.size w w5 by rw[hw5];exact zAI (zAI (zAI (zAI hbt HRG.out.2 _ _) HRG.out.2 _ _) HRG.out.2 _ _) HRG.out.2 _ _)
   obtain⟨g0,g1,g2,g3,_⟩:=hs5.cells pn pd
   have HW5:=hid hw5
   have HSV:=hid (show sumV (nrmQ x).1 (nrmQ x).2=.agg #[.int .i64 n1,.int .u64 n2,.int .i64 d1,.int .u64 d2]by rw[HQ.out,pn.sum pd])
   have hni:¬(t:Int)<(t:Int):=by omega
   clear hsb hzb hbt hw5 hs5 pn pd
   go_wp2
   rw[<- HW5.out]
   refine bodyPost_ret (v:=.agg #[.int .i64 n1,.int .u64 n2,.int .i64 d1,.int .u64 d2]) ?_ rfl ⟨by rw[HSV.out],HB5.out⟩
   simp[results,Tryz.results82,go_sem,g0,g1,g2,g3]
end
section
def nrmS(x:List Rt):Nat->Int×Int
 |0=>(0,1)
 |k+1=>if (zAD x k).1≠0 then((nrmS x k).1*(zAD x k).2+((zAD x k).1.natAbs:Int)*(nrmS x k).2,(nrmS x k).2*(zAD x k).2)else nrmS x k
theorem nrmS_pos{x:List Rt}(h:∀k,0<(zAD x k).2):∀k,0<(nrmS x k).2∧0<=(nrmS x k).1
 |0=>by simp[nrmS]
 |k+1=>by
  have ih:=nrmS_pos h k
  have hk:=h k
  rw[nrmS]
  split
  ·exact⟨Int.mul_pos ih.1 hk,Int.add_nonneg (Int.mul_nonneg ih.2 (by omega)) (Int.mul_nonneg (by omega) (by omega))⟩
  ·exact ih
theorem allF_fits{M:Mask}(hc:zAB M<=10)(y:List Int):allF M y=zBT M y 10:=by
 have h:=fits_same M y 10
 have e:fitsR M y ((10:Nat):Int)=allF M y:=by
  unfold fitsR
  rw[List.filter_eq_self]
  intro f hf
  have:=(zLU hf).2.2
  simp;omega
 rw[<- e];exact h
theorem zLG(n:Nat):∀k,(lvls n k).Nodup∧∀x∈lvls n k,x.length<=k
 |0=>⟨zFZ n 0 0,fun x hx=>Nat.le_of_eq (zCP n 0 0 x hx)⟩
 |k+1=>by
  obtain⟨h1,h2⟩:=zLG n k
  rw[lvls]
  refine⟨?_,fun x hx=>?_⟩
  ·rw[List.nodup_append]
   refine⟨h1,zFZ n (k+1) 0,?_⟩
   rintro x hx y hy rfl
   have:=h2 x hx
   have:=zCP n (k+1) 0 x hy
   omega
  ·rcases List.mem_append.1 hx with h|h
   ·have:=h2 x h;omega
   ·exact Nat.le_of_eq (zCP n (k+1) 0 x h)
theorem allS_nodup(n:Nat):(allS n).Nodup:=(zLG n n).1
theorem fits_nodup{M:Mask}{y:List Int}(hM:okM M=true):((zBT M y 10).map (·.1)).Nodup:=by
 obtain⟨_,_,_,_,hc10⟩:=zCY hM
 rw[<- allF_fits hc10]
 unfold allF
 have h1:((allS (zAB M)).filterMap (fitF M y)).map (·.1)=(allS (zAB M)).filter (fun S=>(fitF M y S).isSome):=by
  induction allS (zAB M)with
  |nil=>rfl
  |cons S l ih=>
   cases h:fitF M y S with
   |none=>rw[List.filterMap_cons_none h,List.filter_cons_of_neg (by simp[h]),ih]
   |some f=>rw[List.filterMap_cons_some h,List.filter_cons_of_pos (by simp[h]),List.map_cons,ih,(zJF h).1]
 rw[h1]
 exact(List.filter_sublist).nodup (allS_nodup _)
end
section
open Go.RowKit
def RatI(w:World)(g:Nat)(r:Rt):Prop:=w.heap[g]? =some (.cells #[.int .i64 r.1,.int .i64 r.2] 29 (0,0))
theorem RatI.lt{w:World}{g:Nat}{r:Rt}(h:RatI w g r):g<w.heap.size:=(Array.getElem?_eq_some_iff.1 h).1
theorem RatI.keep{w w':World}{g:Nat}{r:Rt}(h:RatI w g r)(hk:w'.heap[g]? =w.heap[g]?):RatI w' g r:=hk.trans h
theorem RatI.cells{w:World}{g:Nat}{r:Rt}(h:RatI w g r):w.cell? ⟨g,0,none⟩=some (.int .i64 r.1)∧w.cell? ⟨g,1,none⟩=some (.int .i64 r.2)∧w.frozen? ⟨g,0,none⟩=false∧w.frozen? ⟨g,1,none⟩=false∧g<w.heap.size:=by
 have hl:=h.lt
 unfold RatI at h
 exact⟨by simp[World.cell?,h],by simp[World.cell?,h],by simp[World.frozen?,h],by simp[World.frozen?,h],hl⟩
theorem RatI.set{w:World}{g:Nat}{r p:Rt}(h:RatI w g r):RatI ((w.setCell ⟨g,0,none⟩ (.int .i64 p.1)).setCell ⟨g,1,none⟩ (.int .i64 p.2)) g p:=by
 have h1:=zAW h 0 (v:=.int .i64 p.1)
 have h2:=zAW h1 1 (v:=.int .i64 p.2)
 unfold RatI
 rw[h2];rfl
theorem RatI.made(w:World)(r:Rt):RatI (w.alloc (.cells #[.int .i64 r.1,.int .i64 r.2] 29)) w.heap.size r:=World.alloc_heap_new _ _
theorem WP.zero:WP 0 0 0:=⟨rfl,rfl⟩
theorem zBF.made0(w:World):zBF (w.alloc (.cells #[.int .i64 0,.int .u64 0] 100)) w.heap.size 0:=zBF.made w WP.zero
def RatioR(n d:Int)(e:Ending):Prop:=∃r:Rt,e=.returned (.tuple #[ratV r,.bool (zAL (zAZ n d))])∧(zAL (zAZ n d)=true->r=zAZ n d)
def RatioLaw:Prop:=∀(w:World) (n d:Int),(-170141183460469231731687303715884105728<n∧n<170141183460469231731687303715884105728)->(0<d∧d<166153499473114484112975882535043072)->
    Calls Tryz.prog 83 #[sumV n d] w fun e w'=>RatioR n d e∧Below w.heap.size w w'
end
section
open Go.RowKit
def backB(md:Region.Mode)(ops:Array Oper):Bool:=(List.range ops.size).all fun i=>match ops[i]? with|some o=>o.after.toList.all (fun e=>!Region.binds md e||decide (e.on<i))|none=>true
def openC(listed:Array Bool):Nat:=listed.toList.countP (fun b=>!b)
theorem openC_set{listed:Array Bool}{i:Nat}(h:listed.getD i true=false):openC (listed.setIfInBounds i true)+1=openC listed:=by
 unfold openC
 have hi:i<listed.size:=by
  rcases Nat.lt_or_ge i listed.size with c|c
  ·exact c
  ·simp[c]at h
 have hf:listed.toList[i]'(by simpa using hi)=false:=by simpa[hi]using h
 rw[Array.toList_setIfInBounds]
 have e:listed.toList=listed.toList.take i++false::listed.toList.drop (i+1):=by
  conv=>lhs;rw[<- List.take_append_drop i listed.toList]
  rw[List.drop_eq_getElem_cons (by simpa using hi),hf]
 have e2:listed.toList.set i true=listed.toList.take i++true::listed.toList.drop (i+1):=by
  rw[List.set_eq_take_append_cons_drop,if_pos (by simpa using hi)]
 rw[e2]
 conv=>rhs;rw[e]
 rw[List.countP_append,List.countP_append,List.countP_cons,List.countP_cons]
 simp
 omega
theorem AnyT.inv{P:Program}{md:Region.Mode}{ops:Array Oper}{Q:Exit->Act->World->Prop}{a0:Act}{w0:World}(I:Act->World->(Nat->Bool)->Act->World->Prop)(hb:backB md ops=true)
 (hstep:∀(L:Nat->Bool) (a:Act) (w:World) (i:Nat) (o:Oper),ops[i]? =some o->L i=false->(∀e∈o.after.toList,Region.binds md e=true->L e.on=true)->I a0 w0 L a w->wpOp P ops Q i (fun a' w'=>True∧I a0 w0 (fun j=>decide (j=i)||L j) a' w') a w)
 (hdone:∀(L:Nat->Bool) (a:Act) (w:World),(∀j,j<ops.size->L j=true)->I a0 w0 L a w->Q .normal a w):
 ∀(fuel:Nat) (listed:Array Bool) (a:Act) (w:World),listed.size=ops.size->openC listed<=fuel->I a0 w0 (fun j=>listed.getD j true) a w->AnyT P md ops Q (fun _ _=>True) fuel listed a w:=by
 have hall:∀listed:Array Bool,listed.size=ops.size->Region.ready md ops listed=[]->∀j,j<ops.size->listed.getD j true=true:=by
  intro listed hs hr j
  induction j using Nat.strongRecOn with
  |ind j ih=>
   intro hj
   rcases Bool.eq_false_or_eq_true (listed.getD j true)with c|c
   ·exact c
   ·exfalso
    have hm:j∈Region.ready md ops listed:=by
     refine mem_ready.2 ⟨c,ops[j],Array.getElem?_eq_getElem hj,fun x hx hbx=>?_⟩
     have h1:=List.all_eq_true.1 hb j (List.mem_range.2 hj)
     rw[Array.getElem?_eq_getElem hj]at h1
     have h2:=List.all_eq_true.1 h1 x (by simpa using hx)
     rw[hbx]at h2
     have h3:x.on<j:=by simpa using h2
     have h4:=ih x.on h3 (by omega)
     have h5:x.on<listed.size:=by omega
     simpa[h5]using h4
    rw[hr]at hm;cases hm
 intro fuel
 induction fuel with
 |zero=>
  intro listed a w hs hc hI
  have hr:Region.ready md ops listed=[]:=by
   rcases h:Region.ready md ops listed with _|⟨i,l⟩
   ·rfl
   ·exfalso
    have:=(mem_ready.1 (show i∈Region.ready md ops listed by rw[h];simp)).1
    have:=openC_set this
    omega
  exact⟨hr,hdone _ a w (hall listed hs hr) hI⟩
 |succ fuel ih=>
  intro listed a w hs hc hI
  refine⟨fun hr=>hdone _ a w (hall listed hs hr) hI,fun i hi=>?_⟩
  obtain⟨hun,o,ho,hd⟩:=mem_ready.1 hi
  have h1:=openC_set hun
  refine wpOp_mono (fun a' w' h=>⟨trivial,ih _ a' w' (by simpa using hs) (by omega) ?_⟩) (hstep _ a w i o ho hun (fun e he hbe=>?_) hI)
  ·have h2:=h.2
   have:(fun j=>(listed.setIfInBounds i true).getD j true)=(fun j=>decide (j=i)||listed.getD j true):=by
    funext j
    by_cases e:j=i
    ·subst e
     by_cases c:j<listed.size<;>simp[c]
    ·have:(listed.setIfInBounds i true).getD j true=listed.getD j true:=getD_set_ne true (fun h=>e h.symm)
     rw[this];simp[e]
   rw[this];exact h2
  ·have h3:=hd e (by simpa using he) hbe
   by_cases c:e.on<listed.size
   ·simpa[c]using h3
   ·simp[c]
theorem openC_le(listed:Array Bool):openC listed<=listed.size:=by unfold openC;simpa using List.countP_le_length (l:=listed.toList) (p:=fun b=>!b)
theorem AnyT.inv0{P:Program}{md:Region.Mode}{ops:Array Oper}{Q:Exit->Act->World->Prop}{a0:Act}{w0:World}(I:Act->World->(Nat->Bool)->Act->World->Prop)(hb:backB md ops=true)
 (hstep:∀(L:Nat->Bool) (a:Act) (w:World) (i:Nat) (o:Oper),ops[i]? =some o->L i=false->(∀e∈o.after.toList,Region.binds md e=true->L e.on=true)->I a0 w0 L a w->wpOp P ops Q i (fun a' w'=>True∧I a0 w0 (fun j=>decide (j=i)||L j) a' w') a w)
 (hdone:∀(L:Nat->Bool) (a:Act) (w:World),(∀j,j<ops.size->L j=true)->I a0 w0 L a w->Q .normal a w)(h0:∀L:Nat->Bool,(∀j,j<ops.size->L j=false)->I a0 w0 L a0 w0):
 AnyT P md ops Q (fun _ _=>True) ops.size (Array.replicate ops.size false) a0 w0:=
 AnyT.inv I hb hstep hdone _ _ a0 w0 (by simp) (by have:=openC_le (Array.replicate ops.size false);simpa using this) (h0 _ (fun j hj=>by simp[hj]))
end
section
open Go.RowKit
def zCU(a:Act)(L:List Tmp)(f:Tmp->Value):Act:=L.foldl (fun a d=>a.put (some d) (f d)) a
theorem zLN:∀(L:List Tmp) (a:Act) (f:Tmp->Value),(zCU a L f).tmps.size=a.tmps.size
 | [],a,f=>rfl
 |d::L,a,f=>by
  show(zCU (a.put (some d) (f d)) L f).tmps.size=_
  rw[zLN L];simp[Act.put]
theorem zEE:∀(L:List Tmp) (a:Act) (f:Tmp->Value),(zCU a L f).defers=a.defers
 | [],a,f=>rfl
 |d::L,a,f=>by
  show(zCU (a.put (some d) (f d)) L f).defers=_
  rw[zEE L];rfl
theorem zFM:∀(L:List Tmp) (a:Act) (f:Tmp->Value) (t:Nat),(zCU a L f).tmps[t]? =if t∈L∧t<a.tmps.size then some (f t)else a.tmps[t]?
 | [],a,f,t=>by simp[zCU]
 |d::L,a,f,t=>by
  show(zCU (a.put (some d) (f d)) L f).tmps[t]? =_
  rw[zFM L]
  have hs:(a.put (some d) (f d)).tmps.size=a.tmps.size:=by simp[Act.put]
  have hg:(a.put (some d) (f d)).tmps[t]? =if d=t then(if d<a.tmps.size then some (f d)else none)else a.tmps[t]? :=by
   show(a.tmps.setIfInBounds d (f d))[t]? =_
   rw[Array.getElem?_setIfInBounds]
  rw[hs,hg]
  by_cases h2:t<a.tmps.size
  ·by_cases h1:t∈L
   ·rw[if_pos ⟨h1,h2⟩,if_pos ⟨by simp[h1],h2⟩]
   ·rw[if_neg (fun h=>h1 h.1)]
    by_cases h3:d=t
    ·subst h3;rw[if_pos rfl,if_pos h2,if_pos ⟨by simp,h2⟩]
    ·rw[if_neg h3,if_neg (fun h=>by rcases List.mem_cons.1 h.1 with e|e;exact h3 e.symm;exact h1 e)]
  ·have e0:a.tmps[t]? =none:=Array.getElem?_eq_none (by omega)
   rw[if_neg (fun h=>h2 h.2)]
   have e1:(if t∈d::L∧t<a.tmps.size then some (f t)else a.tmps[t]?)=a.tmps[t]? :=if_neg (fun h=>h2 h.2)
   rw[e1,e0]
   by_cases h3:d=t
   ·subst h3;rw[if_pos rfl,if_neg h2]
   ·rw[if_neg h3]
theorem act_ext{a b:Act}(h1:∀t:Nat,a.tmps[t]? =b.tmps[t]?)(h2:a.defers=b.defers):a=b:=by
 obtain⟨at1,ad⟩:=a
 obtain⟨bt,bd⟩:=b
 have:at1=bt:=Array.ext_getElem? h1
 subst this
 have:ad=bd:=h2
 subst this
 rfl
def updF(f:Tmp->Value)(d:Tmp)(v:Value):Tmp->Value:=fun t=>if t=d then v else f t
theorem updF_same(f:Tmp->Value)(d:Tmp)(v:Value):updF f d v d=v:=by simp[updF]
theorem updF_ne{f:Tmp->Value}{d t:Tmp}{v:Value}(h:t≠d):updF f d v t=f t:=by simp[updF,h]
theorem fillA_put{a:Act}{L:List Tmp}{f:Tmp->Value}{d:Tmp}{v:Value}(hd:d∈L):(zCU a L f).put (some d) v=zCU a L (updF f d v):=by
 refine act_ext (fun t=>?_) ?_
 ·show((zCU a L f).tmps.setIfInBounds d v)[t]? =_
  rw[Array.getElem?_setIfInBounds,zLN,zFM,zFM]
  by_cases e:d=t
  ·subst e
   rw[if_pos rfl,updF_same]
   by_cases h2:d<a.tmps.size
   ·simp[hd,h2]
   ·simp[h2]
  ·rw[if_neg e,updF_ne (fun h=>e h.symm)]
 ·show(zCU a L f).defers=_
  rw[zEE,zEE]
theorem fillA_self(a:Act)(L:List Tmp):zCU a L (fun t=>a.tmps.getD t undef)=a:=by
 refine act_ext (fun t=>?_) (zEE _ _ _)
 rw[zFM]
 split
 ·rename_i h
  simp[h.2]
 ·rfl
def zAC(a:Act)(L:List Tmp)(f:Tmp->Value):Operand->Value
 | .tmp t=>if t∈L∧t<a.tmps.size then f t else a.eval (.tmp t)
 |x=>a.eval x
theorem fillA_eval(a:Act)(L:List Tmp)(f:Tmp->Value):(zCU a L f).eval=zAC a L f:=by
 funext x
 cases x with
 |tmp t=>
  have h:=zFM L a f t
  show(zCU a L f).tmps.getD t undef=if t∈L∧t<a.tmps.size then f t else a.tmps.getD t undef
  rw[Array.getD_eq_getD_getElem?,h]
  split
  ·rfl
  ·rw[Array.getD_eq_getD_getElem?]
 |const v=>rfl
 |«global» g=>rfl
 |func f=>rfl
def zAP(P:Program)(o:Oper)(ev:Operand->Value)(w:World)(K:Value->World->Prop):Prop:=
 o.guard=none∧((∃v w',(execOp ev o).run P w=.ok (.value v) w'∧K v w')∨(∃w',(execOp ev o).run P w=.ok .skip w'∧K undef w')∨
  (∃g args w',(execOp ev o).run P w=.ok (.enter g args) w'∧Calls P g args w' fun e w''=>∃v,e=.returned v∧K v w''))
theorem zAP.val{P:Program}{o:Oper}{ev:Operand->Value}{w w':World}{K:Value->World->Prop}{v:Value}(hg:o.guard=none)(h:(execOp ev o).run P w=.ok (.value v) w')(hK:K v w'):zAP P o ev w K:=⟨hg,.inl ⟨v,w',h,hK⟩⟩
theorem zAP.skip{P:Program}{o:Oper}{ev:Operand->Value}{w w':World}{K:Value->World->Prop}(hg:o.guard=none)(h:(execOp ev o).run P w=.ok .skip w')(hK:K undef w'):zAP P o ev w K:=⟨hg,.inr (.inl ⟨w',h,hK⟩)⟩
theorem zAP.call{P:Program}{o:Oper}{ev:Operand->Value}{w w':World}{K:Value->World->Prop}{g:FuncId}{args:Array Value}(hg:o.guard=none)(h:(execOp ev o).run P w=.ok (.enter g args) w')(hK:Calls P g args w' fun e w''=>∃v,e=.returned v∧K v w''):zAP P o ev w K:=⟨hg,.inr (.inr ⟨g,args,w',h,hK⟩)⟩
def setF(o:Oper)(f:Tmp->Value)(v:Value):Tmp->Value:=match o.dst with|some d=>updF f d v|none=>f
def dstIn(ops:Array Oper)(L:List Tmp):Bool:=ops.toList.all fun o=>match o.dst with|some d=>L.contains d|none=>true
theorem AnyT.regF{P:Program}{md:Region.Mode}{ops:Array Oper}{Q:Exit->Act->World->Prop}{a0:Act}{w0:World}(L:List Tmp)(J:(Nat->Bool)->(Tmp->Value)->World->Prop)(hb:backB md ops=true)
 (hLb:dstIn ops L=true)
 (hstep:∀(l:Nat->Bool) (f:Tmp->Value) (w:World) (i:Nat) (o:Oper),ops[i]? =some o->l i=false->(∀e∈o.after.toList,Region.binds md e=true->l e.on=true)->J l f w->zAP P o (zAC a0 L f) w (fun v w'=>J (fun j=>decide (j=i)||l j) (setF o f v) w'))
 (hdone:∀(l:Nat->Bool) (f:Tmp->Value) (w:World),(∀j,j<ops.size->l j=true)->J l f w->Q .normal (zCU a0 L f) w)
 (h0:∀(l:Nat->Bool) (f:Tmp->Value),(∀j,j<ops.size->l j=false)->J l f w0):AnyT P md ops Q (fun _ _=>True) ops.size (Array.replicate ops.size false) a0 w0:=by
 have hL:∀(i:Nat) (o:Oper),ops[i]? =some o->∀d,o.dst=some d->d∈L:=fun i o ho d hd=>by
  obtain⟨hlt,hk⟩:=Array.getElem?_eq_some_iff.1 ho
  have h1:=List.all_eq_true.1 hLb o (by rw[<- hk];simp)
  rw[hd]at h1
  simpa using h1
 refine AnyT.inv0 (fun a0 w0 l a w=>∃f,a=zCU a0 L f∧J l f w) hb ?_ ?_ ?_
 ·rintro l a w i o ho hi hd ⟨f,rfl,hJ⟩
  obtain⟨hg,hs⟩:=hstep l f w i o ho hi hd hJ
  have hput:∀v,(zCU a0 L f).put o.dst v=zCU a0 L (setF o f v):=fun v=>by
   unfold setF
   cases e:o.dst with
   |none=>rfl
   |some d=>exact fillA_put (hL i o ho d e)
  unfold wpOp
  simp only[ho]
  have hw:Region.wanted o (yielded ops (zCU a0 L f).tmps)=true:=by unfold Region.wanted;rw[hg]
  rw[if_pos hw]
  refine .inl ?_
  unfold Oper.wp
  rw[fillA_eval]
  rcases hs with⟨v,w',h,hK⟩|⟨w',h,hK⟩|⟨g,args,w',h,hK⟩
  ·rw[h]
   show True∧∃f',_=zCU a0 L f'∧_
   exact⟨trivial,_,hput v,hK⟩
  ·rw[h]
   show True∧∃f',_=zCU a0 L f'∧_
   exact⟨trivial,_,hput _,hK⟩
  ·rw[h]
   show Calls P g args w' _
   refine hK.mono ?_
   rintro e w'' ⟨v,rfl,hK⟩
   exact⟨trivial,_,hput v,hK⟩
 ·rintro l a w hall ⟨f,rfl,hJ⟩
  exact hdone l f w hall hJ
 ·intro l hl
  exact⟨_,(fillA_self a0 L).symm,h0 l _ hl⟩
theorem zDP{P:Program}{md:Region.Mode}{ops:Array Oper}{Q:Exit->Act->World->Prop}{T:Nat->World->Prop}{fuel:Nat}{listed:Array Bool}{a:Act}{w:World}(h:∀a0,a0=a->AnyT P md ops Q T fuel listed a0 w):AnyT P md ops Q T fuel listed a w:=h a rfl
end
end Go.Proofs.YtlffndehhhpgjaaGreat
