/- Walks and plain laws for DualCornersRow, part 11. -/
import Derived.Lib.AppendZeros
import Derived.Deep.CutRange
import Derived.Test.YtlffndehhhpgjaaGreatPkDualCornersRow10
namespace Go.Proofs.YtlffndehhhpgjaaGreat
set_option linter.unusedVariables false
set_option linter.unusedSimpArgs false
set_option maxRecDepth 100000
set_option maxHeartbeats 4000000
section
open Go.RowKit
attribute [local go_sem] Oper.semAt_some
theorem newsD(w:World)(x0 x1:Value)(T:TypeId):∀j u,[x0,x1][j]? =some u->(w.alloc (.cells #[x0,x1] T)).cell? ((⟨w.heap.size,0,none⟩:Addr).add j)=some u:=by
 intro j u hu
 match j,hu with
 |0,hu=>rw[Addr.add_lit,World.cell?_alloc_at _ _ _ _ rfl];simpa using hu
 |1,hu=>rw[Addr.add_lit,World.cell?_alloc_at _ _ _ _ rfl];simpa using hu
structure ColI (w:World) (base:Nat) (Sr:Nat->Prop) (pre:List FitT) (Z:World):Prop where
 b:Below w.heap.size w Z
 z:base<=Z.heap.size
 o:∃v,Boxed Z w.heap.size 87 v∧zCP Z base (fun q=>base<=q∧¬Sr q) v pre
theorem ColI.keep{w A B:World}{base:Nat}{S S':Nat->Prop}{pre:List FitT}(h:ColI w base S pre A)(hn:∀k,S' k->S k∨A.heap.size<=k)(hl:∀k,S' k->base<=k)(hb:w.heap.size<base)
 (hk:Keep (fun k=>(k<=w.heap.size∨base<=k)∧¬S' k) A B):ColI w base S' pre B:=by
 have hns:∀k,k<base->¬S' k:=fun k hk hs=>by have:=hl k hs;omega
 obtain⟨v,h1,h2⟩:=h.o
 refine⟨hk.below h.b h.b.size fun k hk=>⟨by omega,hns k (by omega)⟩,Nat.le_trans h.z hk.size,v,(hk.block _ h1.lt ⟨by omega,hns _ (by omega)⟩).trans h1,h2.keep hk fun q hq hlt=>?_⟩
 have h4:¬S' q:=fun hs=>by
  rcases hn q hs with h|h
  ·exact hq.2 h
  ·omega
 exact⟨⟨.inr hq.1,h4⟩,hq.1,h4⟩
theorem appendFits_c(w:World)(k kb qb:Nat)(a a2:Option Addr)(n cap n2 cap2:Nat)(M:Mask)(y:List Int)(hn:M.length=n)(hn2:y.length=n2)(hm:n<=maxLen)(hm2:n2<=maxLen)(h1:1<=n)(hW:zAC M<=10)(hk:k<=1000)
 (hkb:kb<w.heap.size)(hqb:qb<w.heap.size)(hck:w.cell? ⟨kb,0,none⟩=some (.int .i64 k))(hcq:w.heap[qb]? =some (.cells #[.slice a n cap,.slice a2 n2 cap2] 216 (0,0)))(H:zAN w a M)(H2:zAI w a2 y):
 Calls Tryz.prog 253 #[.slice none 0 0,.func (.func 254) #[] #[.pointer (some ⟨kb,0,none⟩),.pointer (some ⟨qb,0,none⟩)]] w fun e w'=>
  Below w.heap.size w w'∧∃v base,e=.returned v∧w.heap.size<=base∧zCP w' base (fun q=>w.heap.size<=q) v (zBM M y k):=by
 obtain⟨w1,hw1⟩:=exq (w.alloc (.cells #[.slice none 0 0] 87))
 have hs1:w1.heap.size=w.heap.size+1:=by rw[hw1,World.size_alloc]
 have hb1:Below w.heap.size w w1:=by rw[hw1];exact(Below.refl _ _).alloc (Nat.le_refl _) _
 have hB:Boxed w1 w.heap.size 87 (.slice none 0 0):=by rw[hw1];exact World.alloc_heap_new _ _
 obtain⟨fp,hfp⟩:∃fp:Nat->Prop,fp=fun q=>q<w.heap.size:=⟨_,rfl⟩
 have HIT:=hid (fits_iter w1 fp k kb qb a a2 n cap n2 cap2 M y hn hn2 hm hm2 h1 (by omega) hk (by rw[hfp];intro q hq;show q<w1.heap.size;have:q<w.heap.size:=hq;omega) (by rw[hfp];exact hkb) (by rw[hfp];exact hqb)
  ((hb1.cell (p:=⟨kb,0,none⟩) hkb).trans hck) ((hb1.block _ hqb).trans hcq)
  (fun X _ hX=>by
    have hX2:∀q,q<w.heap.size->X.heap[q]? =w.heap[q]? :=fun q hq=>(hX q (by rw[hfp];exact hq)).trans (hb1.block q hq)
    exact⟨zAN.blk H hX2,zAI.blk H2 hX2⟩))
 have HCNT:=hid (show(zBM M y k).length<=11264 by
  have h3:=zFD M y (zAC M) (min (min k (zAC M)) M.length+1)
  have h4:2 ^ (zAC M)<=1024:=Nat.pow_le_pow_right (by omega) (show zAC M<=10 by omega)
  have h5:(min (min k (zAC M)) M.length+1)*2 ^ (zAC M)<=11*1024:=Nat.mul_le_mul (by omega) h4
  have h6:(zBM M y k).length=(zBX M y (zAC M) (min (min k (zAC M)) M.length+1)).length:=rfl
  omega)
 have HFP:=hid hfp
 have HW1:=hid hw1
 have HS1:=hid hs1
 have HB1:=hid hb1
 have HBX:=hid hB
 clear hn hn2 hm hm2 h1 hW hk hkb hqb hck hcq H H2 hw1 hs1 hb1 hB hfp
 refine callsIn_wide (n:=0) |>.1 ?_
 refine callsIn_of_wp_marks Tryz.func253 rfl trivial ?_ rfl
 simp only[Tryz.ntmps253,List.size_toArray,List.length_cons,List.length_nil,Nat.reduceAdd,Nat.reduceSub,Array.replicate_succ,Array.replicate_zero,List.push_toArray,List.append_toArray,List.nil_append,List.cons_append]
 gi_wp2
 rw[<- HW1.out]
 refine range_s (gf:=254) (lb:=#[.pointer (some ⟨kb,0,none⟩),.pointer (some ⟨qb,0,none⟩)]) (xs:=zBM M y k) (fp:=fp) (V:=FitV) rfl (enters_of Tryz.func254 (by kernel_rfl) rfl)
  HIT.out (Below.refl _ _) (by rw[HFP.out];intro q h;have:=HS1.out;have:q<w.heap.size:=h;omega)
  (fun Sr pre Z=>ColI w (w1.heap.size+2) Sr pre Z)
  (fun _ _ _ _=>False) ?hI (fun _ _ _ _ _ _ h=>h.elim) ?hV ?h0
  (fun v a' Z=>∃p u1 u2 f0 f1,a'={tmps:=#[.slice none 0 0,f0,.pointer (some ⟨w.heap.size,0,none⟩),undef,.slice none 0 0,.pointer (some ⟨p,0,none⟩),f1,v,undef,undef,undef,undef,undef],defers:=[]}∧v=.agg #[u1,u2]∧w1.heap.size+2<=p∧Z.heap[p]? =some (.cells #[u1,u2] 73 (0,0))) ?hAx ?hassign ?hbody ?hdone ?hstop
 case hI=>
  intro Sr Sr' s A B hIA h1 h2 h3 h4 hk
  exact hIA.keep h2 h3 (by have:=HS1.out;omega) (hk.mono fun k hk=>by have:=HS1.out;exact⟨by omega,by omega,hk.2⟩)
 case hV=>
  intro Sr x v A B hv hk
  exact hv.keep hk (fun k hk=>⟨by omega,by omega⟩)
 case h0=>
  intro Z hk hZ
  have hs1:=HS1.out
  exact⟨hk.below HB1.out HB1.out.size fun k hk=>by omega,hZ,_,(hk.block _ HBX.out.lt (by show _<_;omega)).trans HBX.out,zCP.nil _ _ _⟩
 case hAx=>
  rintro v a' A B ⟨p,u1,u2,f0,f1,e1,e2,hp,hc⟩ hk
  exact⟨p,u1,u2,f0,f1,e1,e2,hp,(hk.block p (Array.getElem?_eq_some_iff.1 hc).1 ⟨by omega,by omega⟩).trans hc⟩
 case hassign=>
  rintro l Sr x v Z K hZ ⟨pa,pn,pc,va,vn,vc,rfl,_⟩ hK
  gi_wp2
  refine hK _ _ ((Below.refl _ _).alloc (Nat.le_refl _) _) ⟨Z.heap.size,_,_,_,_,rfl,rfl,hZ,World.alloc_heap_new Z _⟩
 case hbody=>
  rintro l' Sr pre f _ _ Z hpre hSr hI hv ⟨p,u1,u2,f0,f1,rfl,rfl,hp,hpc⟩ hZ hDo hLo
  obtain⟨v,hvb,hro⟩:=hI.o
  have hFC:FitC Z (fun q=>w1.heap.size+2<=q∧¬Sr q) u1 u2 f:=hv.fitC fun b h1 h2 h3=>⟨h1,h3⟩
  have hcnt:pre.length+1<=11264:=by have h1:=HCNT.out;have h2:=hpre.length_le;simp at h2;omega
  obtain⟨pa,pn,pc,va,vn,vc,e1,e2,_⟩:=id hFC
  subst e1 e2
  have hp0:Z.cell? ⟨p,0,none⟩=some (.slice pa pn pc):=by simp[World.cell?,hpc]
  have hp1:Z.cell? ⟨p,1,none⟩=some (.slice va vn vc):=by simp[World.cell?,hpc]
  have hbc:=hvb.cell
  obtain⟨xs,ho,hg,he⟩:=hro
  obtain⟨i0,hi0,hz0,hz1,hz2⟩:=info_parts info_fit
  have HI:=hid hI
  have HVB:=hid hvb
  have HO:=hid ho
  have HG:=hid hg
  have HE:=hid he
  have HFC:=hid hFC
  have HSR:=hid hSr
  have M1:=hid (show pre.length+1<=maxLen by unfold maxLen;omega)
  have M2:=hid (show(pre.length+1)*48<=140737488355328 by omega)
  have M3:=hid (show w1.heap.size+2<=(Z.alloc (.cells #[.slice pa pn pc,.slice va vn vc] 73)).heap.size by simp;omega)
  have HZ:=hid hZ
  clear hI hvb ho hg he hFC hSr hpre hv hcnt hDo hLo hpc
  gi_wp2_with (gi_at_builtin;go_loud (refine wpListIn_append_own_at _ rfl _ _ 87 rfl (w1.heap.size+2) 73 i0 (.agg #[.slice none 0 0,.slice none 0 0]) 2 48 Tryz.underlying87 hi0 hz0 hz1 hz2 rfl (by decide) v _ _ rfl (HO.out.alloc _) ⟨Z.heap.size,0,none⟩ 1 1 [.slice pa pn pc,.slice va vn vc] rfl rfl (newsD Z _ _ _) (by intro u hu;simp at hu;rcases hu with rfl|rfl<;>rfl) M1.out M2.out M3.out ?_;refine Stop.of ?_))
  refine Stop.go ?_
  intro v5 w9 own5 g5 _ hat5
  obtain⟨a5,c5,rfl⟩:=zAD own5
  have hob:∀q,v.ownBlock=some q->w1.heap.size+2<=q∧¬Sr q:=fun q hq=>HG.out q hq
  have hs1:=HS1.out
  have hzz:=HZ.out
  have hZ1:Below Z.heap.size Z (Z.alloc (.cells #[.slice pa pn pc,.slice va vn vc] 73)):=(Below.refl _ _).alloc (Nat.le_refl _) _
  have hK9:Keep (fun q=>some q≠v.ownBlock) Z w9:=(Keep.of_below hZ1).trans (Keep.grown g5)
  have hS5:∀q,(Value.slice a5 (pre.length+1) c5).ownBlock=some q->w1.heap.size+2<=q∧¬Sr q:=fun q hq=>by
   rcases hat5 with e|e
   ·exact hob q (by rw[<- e];exact hq)
   ·rw[e]at hq
    cases hq
    exact⟨by omega,fun hs=>by have:=(HSR.out _ hs).2;omega⟩
  have hF9:zCP w9 (w1.heap.size+2) (fun q=>w1.heap.size+2<=q∧¬Sr q) (.slice a5 (pre.length+1) c5) (pre++[f]):=zCP.snoc HO.out HE.out HFC.out hZ1 g5 own5 hS5
  have hbx9:Boxed w9 w.heap.size 87 v:=(hK9.block _ HVB.out.lt (by intro e;have:=(hob _ e.symm).1;omega)).trans HVB.out
  have hc9:=hbx9.cell
  have hf9:=hbx9.frozen
  obtain⟨wA,hwA⟩:=exq (w9.setCell ⟨w.heap.size,0,none⟩ (.slice a5 (pre.length+1) c5))
  have kA:Keep (fun q=>q≠w.heap.size) w9 wA:=by rw[hwA];exact Keep.set w9 _ 0 _
  have nA:Boxed wA w.heap.size 87 (.slice a5 (pre.length+1) c5):=by rw[hwA];exact hbx9.set _
  have HA:=hid (And.intro nA (And.intro kA (And.intro hF9 hK9)))
  have HWA:=hid hwA
  have HOB:=hid hob
  clear own5 g5 hat5 hob hK9 hS5 hF9 hbx9 hwA kA nA hs1 hzz hZ1 hi0 hz0 hz1 hz2
  gi_wp2
  rw[<- HWA.out]
  obtain⟨nA,kA,hF9,hK9⟩:=HA.out
  have hs1:=HS1.out
  have kk:Keep (fun q=>q≠w.heap.size∧some q≠v.ownBlock) Z wA:=(hK9.mono fun q hq=>hq.2).trans (kA.mono fun q hq=>hq.1)
  refine⟨kk.size,fun q hq=>?_,?_⟩
  ·have hq1:q<Z.heap.size∧q≠w.heap.size∧some q≠v.ownBlock:=by
    have hzz:=HZ.out
    rcases hq with h|h|h|h
    ·rw[HFP.out]at h
     have h':q<w.heap.size:=h
     exact⟨by omega,by omega,fun e=>by have:=(HOB.out _ e.symm).1;omega⟩
    ·exact⟨by omega,by omega,fun e=>by have:=(HOB.out _ e.symm).1;omega⟩
    ·exact⟨by omega,by omega,fun e=>by have:=(HOB.out _ e.symm).1;omega⟩
    ·have:=HSR.out q h
     exact⟨this.2,by omega,fun e=>(HOB.out _ e.symm).2 h⟩
   exact kk.block q hq1.1 hq1.2
  ·refine⟨kk.below HI.out.b HI.out.b.size fun q hq=>⟨by omega,fun e=>by have:=(HOB.out _ e.symm).1;omega⟩,Nat.le_trans HZ.out kk.size,_,nA,hF9.keep kA fun q hq _=>⟨by have:=hq.1;omega,hq⟩⟩
 case hdone=>
  intro Sr Z hZ hSr hI hmk
  obtain⟨v,hvb,hro⟩:=hI.o
  have hcv:=hvb.cell
  have HI:=hid hI
  have HRO:=hid hro
  have HMR:=hid hmk
  obtain⟨va,vc,rfl⟩:=hro.slice
  clear hI hvb hro hmk hSr
  gi_wp2
  have hs1:=HS1.out
  refine zGC [w1.heap.size] Z (by simp) (fun h hh=>by rw[List.mem_singleton.1 hh];exact HMR.out) fun w' hk=>?_
  refine⟨_,results_tmp rfl _ _ _,hk.below HI.out.b HI.out.b.size (fun k hk hh=>by rw[List.mem_singleton.1 hh]at hk;omega),_,w1.heap.size+2,rfl,by omega,?_⟩
  exact HRO.out.keep hk (fun q hq _=>⟨fun hh=>by have:=hq.1;rw[List.mem_singleton.1 hh]at this;omega,by have:=hq.1;omega⟩)
 case hstop=>
  intro Sr c pre Z hpre hSr hI hmk
  exact hI.elim
end
section
open Go.RowKit
theorem zPV(w:World)(k kb qb:Nat)(a a2:Option Addr)(n cap n2 cap2:Nat)(M:Mask)(y:List Int)(hn:M.length=n)(hn2:y.length=n2)(hm:n<=maxLen)(hm2:n2<=maxLen)(h1:1<=n)(hW:zAC M<=10)(hk:k<=1000)
 (hkb:kb<w.heap.size)(hqb:qb<w.heap.size)(hck:w.cell? ⟨kb,0,none⟩=some (.int .i64 k))(hcq:w.heap[qb]? =some (.cells #[.slice a n cap,.slice a2 n2 cap2] 216 (0,0)))(H:zAN w a M)(H2:zAI w a2 y):
 Calls Tryz.prog 233 #[.func (.func 254) #[] #[.pointer (some ⟨kb,0,none⟩),.pointer (some ⟨qb,0,none⟩)]] w fun e w'=>
  Below w.heap.size w w'∧∃v base,e=.returned v∧w.heap.size<=base∧zCP w' base (fun q=>w.heap.size<=q) v (zBM M y k):=by
 have HA:=hid (appendFits_c w k kb qb a a2 n cap n2 cap2 M y hn hn2 hm hm2 h1 hW hk hkb hqb hck hcq H H2)
 clear hn hn2 hm hm2 h1 hW hk hkb hqb hck hcq H H2
 go_enter Tryz.func233,Tryz.ntmps233
 go_wp2_with (go_at_call 253;refine HA.out.mono ?_;rintro e w1 ⟨hb,v,base,rfl,hbs,hf⟩)
 go_ret
 exact⟨hb,v,base,rfl,hbs,hf⟩
theorem collect2_c(X:World)(q:Nat)(a a2:Option Addr)(n cap n2 cap2:Nat)(M:Mask)(y:List Int)(hn:M.length=n)(hn2:y.length=n2)(hm:n<=maxLen)(hm2:n2<=maxLen)(h1:1<=n)(hW:zAC M<=10)(hk:q<=1000)(H:zAN X a M)(H2:zAI X a2 y)(X2:World)(hX2:X2=(X.alloc (.cells #[.slice a n cap,.slice a2 n2 cap2] 216)).alloc (.cells #[.int .i64 (q:Int)] 3)):
 Calls Tryz.prog 233 #[.func (.func 254) #[] #[.pointer (some ⟨X.heap.size+1,0,none⟩),.pointer (some ⟨X.heap.size,0,none⟩)]] X2 fun e w'=>
  Below X2.heap.size X2 w'∧∃v base,e=.returned v∧X2.heap.size<=base∧zCP w' base (fun q=>X2.heap.size<=q) v (zBM M y q):=by
 have hb2:Below X.heap.size X X2:=by rw[hX2];exact((Below.refl _ X).alloc (Nat.le_refl _) _).alloc (by simp) _
 have e1:X2.heap[X.heap.size]? =some (.cells #[.slice a n cap,.slice a2 n2 cap2] 216 (0,0)):=by
  rw[hX2,Below.heap_alloc _ _ _ (by simp)];exact World.alloc_heap_new _ _
 have e2:X2.cell? ⟨X.heap.size+1,0,none⟩=some (.int .i64 (q:Int)):=by
  have:=World.alloc_heap_new (X.alloc (.cells #[.slice a n cap,.slice a2 n2 cap2] 216)) (.cells #[.int .i64 (q:Int)] 3)
  rw[World.size_alloc,<- hX2]at this
  simp[World.cell?,this]
 have hs:X2.heap.size=X.heap.size+2:=by rw[hX2];simp
 exact zPV X2 q (X.heap.size+1) X.heap.size a a2 n cap n2 cap2 M y hn hn2 hm hm2 h1 hW hk (by omega) (by omega) e2 e1 (H.below hb2) (H2.below hb2)
theorem sparseFits_c(w:World)(a a2:Option Addr)(n cap n2 cap2:Nat)(M:Mask)(y:List Int)(k:Int)(hn:M.length=n)(hn2:y.length=n2)(hm:n<=maxLen)(hm2:n2<=maxLen)(H:zAN w a M)(H2:zAI w a2 y):
 Calls Tryz.prog 197 #[.slice a n cap,.slice a2 n2 cap2,.int .i64 k] w fun e w'=>Below w.heap.size w w'∧((zFW M y k≠0∧e=.returned (.tuple #[.slice none 0 0,.int .i64 (zFW M y k)]))∨
  (zFW M y k=0∧∃v base,e=.returned (.tuple #[v,.int .i64 0])∧w.heap.size<=base∧zCP w' base (fun q=>w.heap.size<=q) v (zBM M y k.toNat))):=by
 have HC:=hid (counted_c w a a2 n cap n2 cap2 M y k hn hn2 hm hm2 H H2)
 by_cases h0:zFW M y k=0
 ·obtain⟨hM,hyn,hyB,_⟩:=zFG (show zAU M y []=0 by
   unfold zFW at h0;split at h0
   ·assumption
   ·exact h0)
  have hk:inB k 0 10=true:=by
   unfold zFW at h0;split at h0
   ·cases hb:inB k 0 10
    ·rw[hb]at h0;simp at h0
    ·rfl
   ·contradiction
  obtain⟨hM',h1,h6,hc1,hc10⟩:=zDJ hM
  have hkk:∃q:Nat,k=(q:Int)∧q<=10:=⟨k.toNat,by unfold inB at hk;simp at hk;omega,by unfold inB at hk;simp at hk;omega⟩
  obtain⟨q,rfl,hq10⟩:=hkk
  have HCO:=hid (fun(X:World) (hX:Below w.heap.size w X) (X2:World)=>collect2_c X q a a2 n cap n2 cap2 M y hn hn2 hm hm2 (by omega) hc10 (by omega) (H.below hX) (H2.below hX) X2)
  rw[h0]at HC⊢
  rw[Int.toNat_natCast]
  obtain⟨F,hF⟩:=exq (zBM M y q)
  rw[<- hF]at HCO⊢
  clear hn hn2 hm hm2 H H2 h0 hM hyn hyB hk hM' h1 h6 hc1 hc10 hF
  go_enter Tryz.func197,Tryz.ntmps197
  go_wp2_with (go_at_call 232;refine HC.out.mono ?_;rintro e w1 ⟨rfl,hb1⟩;refine Stop.of ?_)
  refine Stop.go ?_
  have HB1:=hid hb1
  clear hb1
  go_wp2_with (go_at_call 234;refine(qfits_c _ _ _ _ _ _ _ _).mono ?_;rintro e w2 ⟨rfl,hw2⟩;have HW2:=hid hw2;clear hw2;refine Stop.of ?_)
  refine Stop.go ?_
  have hco:=HCO.out w1 HB1.out w2 HW2.out
  have HC2:=hid hco
  have HB12:=hid (show Below w1.heap.size w1 w2 by rw[HW2.out];exact((Below.refl _ w1).alloc (Nat.le_refl _) _).alloc (by simp) _)
  clear hco
  go_wp2_with (go_at_call 233;refine HC2.out.mono ?_;rintro e w3 ⟨hb3,v,base,rfl,hbs,hf⟩)
  go_ret2
  exact⟨zAA HB1.out (zAA HB12.out hb3),.inr ⟨trivial,v,base,rfl,by have:=HB1.out.size;have:=HB12.out.size;omega,hf.keep (Keep.refl (fun _=>True) _) fun q hq _=>⟨trivial,by have:=HB1.out.size;have:=HB12.out.size;omega⟩⟩⟩
 ·have hne:(zFW M y k !=0)=true:=by simpa using h0
  have H0:=hid h0
  obtain⟨E,hE⟩:=exq (zFW M y k)
  rw[<- hE]at HC hne H0⊢
  clear hn hn2 H H2 h0 hE
  go_enter Tryz.func197,Tryz.ntmps197
  go_wp2_with (go_at_call 232;refine HC.out.mono ?_;rintro e w1 ⟨rfl,hb1⟩)
  go_ret2
  exact⟨hb1,.inl ⟨H0.out,rfl⟩⟩
theorem dfits_c(w:World)(a a2:Option Addr)(n cap n2 cap2:Nat)(M:Mask)(y:List Int)(hn:M.length=n)(hn2:y.length=n2)(hm:n<=maxLen)(hm2:n2<=maxLen)(H:zAN w a M)(H2:zAI w a2 y)(h0:zAU M y []=0):
 Calls Tryz.prog 135 #[.agg #[.slice a n cap,.slice a2 n2 cap2]] w fun e w'=>Below w.heap.size w w'∧∃v base,e=.returned v∧w.heap.size<=base∧zCP w' base (fun q=>w.heap.size<=q) v (zBM M y 10):=by
 obtain⟨wz,hwz⟩:=exq (w.alloc (.cells #[.slice a n cap,.slice a2 n2 cap2] 86))
 have hbz:Below w.heap.size w wz:=by rw[hwz];exact(Below.refl _ _).alloc (Nat.le_refl _) _
 have l0:wz.cell? ⟨w.heap.size,0,none⟩=some (.slice a n cap):=by rw[hwz,World.cell?_alloc_at _ _ _ _ rfl];rfl
 have l1:wz.cell? ⟨w.heap.size,1,none⟩=some (.slice a2 n2 cap2):=by rw[hwz,World.cell?_alloc_at _ _ _ _ rfl];rfl
 have hc:zFW M y 10=0:=by unfold zFW;rw[if_pos h0];decide
 have HF:=hid (sparseFits_c wz a a2 n cap n2 cap2 M y 10 hn hn2 hm hm2 (H.below hbz) (H2.below hbz))
 rw[hc]at HF
 have HBZ:=hid hbz
 obtain⟨F,hF⟩:=exq (zBM M y 10)
 have hF2:F=zBM M y (10:Int).toNat:=hF
 rw[<- hF]
 rw[<- hF2]at HF
 have HW:=hid hwz
 clear hn hn2 hm hm2 H H2 h0 hbz hc hF hF2 hwz
 go_enter Tryz.func135,Tryz.ntmps135
 go_upto_region 1 with fail
 rw[<- HW.out]
 go_wp2_with (go_at_call 197;refine HF.out.mono ?_;rintro e w3 ⟨hb3,⟨hx,_⟩|⟨_,v,base,rfl,hbs,hf⟩⟩;first|exact absurd rfl hx|skip)
 go_ret
 exact⟨zAA HBZ.out hb3,v,base,rfl,Nat.le_trans HBZ.out.size hbs,hf.keep (Keep.refl (fun _=>True) _) fun q hq _=>⟨trivial,Nat.le_trans HBZ.out.size hq⟩⟩
end
section
theorem denP_pos{x:List Rt}(h:∀k,0<(zAB x k).2):∀k,0<denP x k
 |0=>by show(0:Int)<1;decide
 |k+1=>Int.mul_pos (denP_pos h k) (h k)
theorem solve_of{M:List (List Int)}{n:Nat}(h:MaskOk M n){y:List Int}(hy:y.length=M.length)(hmil:∀v∈y,-1000000<=v∧v<=1000000)(hr:zFI M n=n)
 {l:Nat->Int}{D:Int}(hD:D≠0)(hl:∀q,q<M.length->sm (fun i=>rowv M q i*l i) n=vec y q*D):
 (zAY (zAK M y) n).2=0∧(zAY (zAK M y) n).1.length=n∧∀k,k<n->(zAB (zAY (zAK M y) n).1 k).1*D=l k*(zAB (zAY (zAK M y) n).1 k).2∧0<(zAB (zAY (zAK M y) n).1 k).2∧(zAB (zAY (zAK M y) n).1 k).2<=288∧Int.gcd (zAB (zAY (zAK M y) n).1 k).1 (zAB (zAY (zAK M y) n).1 k).2=1:=by
 have hY:=h.addY hy (Y:=1000000) (by decide) (by simpa using hmil)
 have hi:=zCK (zAK M y) hY.wid n (fun j hj q=>zCC (by decide) (fun r hr=>hY.one r hr j hj) q)
 have hpiv:=zLX h hy hY
 have hJl:(pRed (zAK M y) n).2.length=n:=by rw[hpiv];exact hr
 have hasc:(pRed (zAK M y) n).2=List.range' 0 n:=zLT hi.asc (fun x hx=>by have:=hi.lt x hx;omega) hJl
 have hjf:∀k,k<n->jf (pRed (zAK M y) n).2 k=k:=fun k hk=>by
  rw[hasc];unfold jf;rw[List.getElem?_range' hk];simp
 have hlen:(zAK M y).length=M.length:=zDV hy
 have hdot:∀u,Sp (RB (zAK M y).length (rowv (zAK M y))) u->dotS u (fun c=>if c<n then l c else-D) (n+1)=0:=by
  intro u hu
  refine zPQ ?_ hu
  rintro v ⟨q,hq,rfl⟩
  rw[hlen]at hq
  unfold dotS
  rw[zMD,zAL (g:=fun i=>rowv M q i*l i) (fun c hc=>by simp only[if_pos hc];rw[zGL h hy hq,if_pos hc]),hl q hq]
  simp only[Nat.lt_irrefl,if_false]
  rw[zGL h hy hq,if_neg (by omega),if_pos rfl]
  rw[Int.mul_neg];omega
 have hsp1:=hi.sp1
 rw[<- hlen]at hy
 -- the rows behind the pivots
 have h0:∀q,n<=q->q<(zAK M y).length->rowv (pRed (zAK M y) n).1 q n=0:=by
  intro q h1 h2
  have hd:=hdot _ (hsp1 q h2)
  unfold dotS at hd
  rw[zMD,zAL (g:=fun _=>0) (fun c hc=>by simp only[if_pos hc];rw[hi.zero q (by omega) h2 c hc];simp),zFH]at hd
  simp only[Nat.lt_irrefl,if_false]at hd
  rcases Int.mul_eq_zero.1 (show rowv (pRed (zAK M y) n).1 q n* -D=0 by omega)with e|e
  ·exact e
  ·omega
 have hpl:=zFC (zAK M y) n
 have hany:((pRed (zAK M y) n).1.drop (pRed (zAK M y) n).2.length).any (nz n)=false:=by
  rw[List.any_eq_false]
  intro r hr2
  obtain⟨i,hilt,rfl⟩:=List.mem_iff_getElem.1 hr2
  rw[List.getElem_drop]
  rw[List.length_drop]at hilt
  have:=h0 ((pRed (zAK M y) n).2.length+i) (by omega) (by omega)
  rw[zGA (by omega)]at this
  simpa[nz]using this
 have hs:zAY (zAK M y) n=((List.range n).map fun k=>ofF (vec ((pRed (zAK M y) n).1[k]?.getD []) n) (vec ((pRed (zAK M y) n).1[k]?.getD []) (jf (pRed (zAK M y) n).2 k)),0):=by
  unfold zAY
  simp only[]
  rw[if_neg (by rw[hany];simp),if_neg (by omega)]
 rw[hs]
 refine⟨rfl,by simp,fun k hk=>?_⟩
 have hk':k<(pRed (zAK M y) n).2.length:=by omega
 have hb:=hi.piv_288 (by rw[zDV (by omega)];exact h.le6) (fun x hx r=>zCC (by decide) (fun r hr=>hY.one r hr x (hi.lt x hx)) r) hk'
 have e1:zAB ((List.range n).map fun k=>ofF (vec ((pRed (zAK M y) n).1[k]?.getD []) n) (vec ((pRed (zAK M y) n).1[k]?.getD []) (jf (pRed (zAK M y) n).2 k))) k=ofF (rowv (pRed (zAK M y) n).1 k n) (rowv (pRed (zAK M y) n).1 k (jf (pRed (zAK M y) n).2 k)):=by
  unfold zAB
  rw[List.getElem?_map,List.getElem?_range hk];rfl
 rw[e1,zMP hb.1]
 have hd:=hdot _ (hsp1 k (Nat.lt_of_lt_of_le hk' hi.K_le))
 unfold dotS at hd
 rw[zMD,zDZ hk (fun c hc hne=>?_)]at hd
 ·simp only[if_pos hk,Nat.lt_irrefl,if_false]at hd
  have hjk:=hjf k hk
  rw[hjk]at hb⊢
  obtain⟨c1,c2,c3,c4,c5⟩:=zDI (a:=rowv (pRed (zAK M y) n).1 k n) hb.1
  refine⟨?_,c1,by omega,c4⟩
  generalize rowv (pRed (zAK M y) n).1 k k=b at*
  generalize rowv (pRed (zAK M y) n).1 k n=a at*
  generalize zAR a b=p at*
  obtain⟨b1,b2⟩:=p
  dsimp only at*
  have e2:b*(b1*D)=b*(l k*b2):=by
   have:b*(b1*D)=(b1*b)*D:=by grind
   rw[this,c5]
   have hd':b*l k=a*D:=by rw[Int.mul_neg]at hd;omega
   have:b*(l k*b2)=(b*l k)*b2:=by grind
   rw[this,hd'];grind
  exact Int.eq_of_mul_eq_mul_left (by omega) e2
 ·simp only[if_pos hc]
  have hc':c<(pRed (zAK M y) n).2.length:=by omega
  have:=hi.ech.red.off k hk' c hc' (fun e=>hne e.symm)
  rw[hjf c hc]at this
  rw[this];simp
theorem solve_to{M:List (List Int)}{n:Nat}(h:MaskOk M n){y:List Int}(hy:y.length=M.length)(hmil:∀v∈y,-1000000<=v∧v<=1000000)(he:(zAY (zAK M y) n).2=0):
 zFI M n=n∧∃(l:Nat->Int) (D:Int),0<D∧(∀q,q<M.length->sm (fun i=>rowv M q i*l i) n=vec y q*D)∧∀k,k<n->(zAB (zAY (zAK M y) n).1 k).1*D=l k*(zAB (zAY (zAK M y) n).1 k).2:=by
 have hY:=h.addY hy (Y:=1000000) (by decide) (by simpa using hmil)
 have hi:=zCK (zAK M y) hY.wid n (fun j hj q=>zCC (by decide) (fun r hr=>hY.one r hr j hj) q)
 have hpiv:=zLX h hy hY
 have hle:=zOQ (a:=0) (b:=n) hi.asc (fun x hx=>⟨Nat.zero_le _,hi.lt x hx⟩)
 have hge:n<=(pRed (zAK M y) n).2.length:=by
  unfold zAY at he
  simp only[]at he
  split at he
  ·simp at he
  ·split at he
   ·simp at he
   ·omega
 have hr:zFI M n=n:=by
  have:zFI M n=(pRed (zAK M y) n).2.length:=by rw[hpiv];rfl
  omega
 have hss:=zNU hY
 have hn:n∉(rRed (zAK M y) (n+1)).piv:=by
  intro hm
  rw[hss]at he
  unfold zNV zBP at he
  simp only[]at he
  rw[if_pos hm]at he
  simp at he
 have hsv:(zAY (zAK M y) n).1=(zBP (zAK M y) n).1:=by
  rw[hss]at he⊢
  unfold zNV at he⊢
  simp only[]at he⊢
  split at he
  ·simp at he
  ·rename_i h1
   split at he
   ·simp at he
   ·rename_i h2
    rw[if_neg h1,if_neg h2]
 obtain⟨_,hpos⟩:=zKV hY (Nat.le_refl _) hn
 refine⟨hr,numP (zBP (zAK M y) n).1 n,denP (zBP (zAK M y) n).1 n,denP_pos hpos n,fun q hq=>?_,fun k hk=>?_⟩
 ·have:=solved_row hY (Nat.le_refl _) hn (RB.sp (K:=(zAK M y).length) (R:=rowv (zAK M y)) (k:=q) (by rw[zDV hy];exact hq))
  rw[zAL (g:=fun i=>rowv M q i*numP (zBP (zAK M y) n).1 n i) (fun c hc=>by rw[zGL h hy hq,if_pos hc]),zGL h hy hq,if_neg (by omega),if_pos rfl]at this
  exact this
 ·rw[hsv]
  have:=numP_eq (x:=(zBP (zAK M y) n).1) (W:=n) hk
  omega
end
section
structure Circ (M:List (List Int)) (n:Nat) (c:List Int):Prop where
 len:c.length=n
 ker:zEC M n (vec c)
 prim:Prim (vec c)
 pos:0<zCI c
 least:∀v,zEC M n v->(∀j,j<n->vec c j=0->v j=0)->(∃j,j<n∧v j≠0)->∀j,j<n->vec c j≠0->v j≠0
theorem zHK:∀(l:List Int),zCI l≠0->∃j,j<l.length∧vec l j=zCI l∧∀i,i<j->vec l i=0
 | [],h=>by simp[zCI]at h
 |x::l,h=>by
  by_cases e:x=0
  ·have h1:zCI (x::l)=zCI l:=by show(if x=0 then zCI l else x)=_;rw[if_pos e]
   rw[h1]at h⊢
   obtain⟨j,hj,h2,h3⟩:=zHK l h
   refine⟨j+1,by simp;omega,by rw[<- h2];simp[vec],fun i hi=>?_⟩
   cases i with
   |zero=>simp[vec,e]
   |succ i=>have:=h3 i (by omega);simpa[vec]using this
  ·have h1:zCI (x::l)=x:=by show(if x=0 then zCI l else x)=_;rw[if_neg e]
   rw[h1]
   exact⟨0,by simp,by simp[vec],fun i hi=>by omega⟩
theorem zOF:∀(l:List Int) (j:Nat),vec l j≠0->(∀i,i<j->vec l i=0)->zCI l=vec l j
 | [],j,h,_=>by simp[vec]at h
 |x::l,0,h,_=>by
  have hx:x≠0:=by simpa[vec]using h
  show(if x=0 then zCI l else x)=_
  rw[if_neg hx];simp[vec]
 |x::l,j+1,h,h0=>by
  have hx:x=0:=by have:=h0 0 (by omega);simpa[vec]using this
  show(if x=0 then zCI l else x)=_
  rw[if_pos hx,zOF l j (by simpa[vec]using h) (fun i hi=>by have:=h0 (i+1) (by omega);simpa[vec]using this)]
  simp[vec]
theorem vec_ext{l m:List Int}(hl:l.length=m.length)(h:∀j,vec l j=vec m j):l=m:=
 List.ext_getElem hl fun j h1 h2=>by have:=h j;rwa [zCY h1,zCY h2]at this
theorem zEC.lin{M:List (List Int)}{n:Nat}{u v:Vec}(hu:zEC M n u)(hv:zEC M n v)(x y:Int):zEC M n (fun c=>x*u c+y*v c):=by
 intro q hq
 have h1:=hu q hq
 have h2:=hv q hq
 unfold dotS at*
 rw[zAL (g:=fun c=>x*(rowv M q c*u c)+y*(rowv M q c*v c)) (fun c _=>by grind),zHP,zCZ,zCZ,h1,h2];simp
theorem Circ.one{M:List (List Int)}{n:Nat}{c d:List Int}(hc:Circ M n c)(hd:Circ M n d)(hs:∀j,j<n->vec c j=0->vec d j=0):c=d:=by
 obtain⟨j0,hj0,e0,z0⟩:=zHK d (by have:=hd.pos;omega)
 rw[hd.len]at hj0
 have hd0:vec d j0≠0:=by have:=hd.pos;omega
 have hcd:=hc.least _ hd.ker hs ⟨j0,hj0,hd0⟩
 -- same support
 have hc0:vec c j0≠0:=fun e=>hd0 (hs j0 hj0 e)
 have zc:∀i,i<j0->vec c i=0:=fun i hi=>Classical.byContradiction fun h=>hcd i (by omega) h (z0 i hi)
 have ec:=zOF c j0 hc0 zc
 have hk:∀j,vec d j0*vec c j=vec c j0*vec d j:=by
  intro j
  rcases Nat.lt_or_ge j n with hj|hj
  ·refine Classical.byContradiction fun hne=>?_
   have hv:=hc.ker.lin hd.ker (vec d j0) (-(vec c j0))
   have:=hc.least _ hv (fun i hi h=>by rw[h,hs i hi h];simp) ⟨j,hj,fun h=>hne (by rw[Int.neg_mul]at h;omega)⟩ j0 hj0 hc0
   refine this ?_
   rw[Int.neg_mul,Int.mul_comm];omega
  ·rw[zFK (l:=c) (c:=j) (by rw[hc.len];exact hj),zFK (l:=d) (c:=j) (by rw[hd.len];exact hj)];simp
 refine vec_ext (by rw[hc.len,hd.len]) fun j=>prim_eq (x:=vec d j0) (y:=vec c j0) ?_ ?_ hk hc.prim hd.prim j
 ·have:=hd.pos;omega
 ·have:=hc.pos;omega
theorem zKL{M:List (List Int)}{n:Nat}(h:MaskOk M n){S c:List Int}(hS:zCL n S)(hne:S≠[])(hc:zGI M n S=some c):Circ M n c:=by
 obtain⟨f1,f2,_,f4,f5⟩:=zOO h hS hne hc
 refine⟨f1,f2,f4,f5,fun v hv h0 hn j hj hcj=>?_⟩
 refine circ_least h hS hc hv (fun i hi hm=>h0 i hi ?_) hn j ((zJJ h hS hc j).1 hcj)
 exact Classical.byContradiction fun e=>hm ((zJJ h hS hc i).1 e)
theorem comb_nodup0{n:Nat}{S:List Int}(hS:zCL n S):S.length<=n:=by
 rcases Nat.lt_or_ge n S.length with h|h
 ·have h1:=zJH n 0 S hS.1 (fun y hy=>by have:=hS.2 y hy;omega)
  rw[zGY n S.length 0 h]at h1
  simp at h1
 ·exact h
theorem circP_iff{M:List (List Int)}{n:Nat}(h:MaskOk M n){c:List Int}:c∈circP M n↔Circ M n c:=by
 rw[circP_mem]
 constructor
 ·rintro⟨k,S,hk,hS,hc⟩
  have hl:=zDD _ _ _ S hS
  exact zKL h (comb_ok hS) (fun e=>by rw[e]at hl;simp at hl) hc
 ·intro hc
  obtain⟨j0,hj0,e0,_⟩:=zHK c (by have:=hc.pos;omega)
  rw[hc.len]at hj0
  obtain⟨S,d,hS,_,hne,hsub,hd⟩:=zNI h _ (vec c) rfl hc.ker ⟨j0,hj0,by have:=hc.pos;omega⟩
  have hD:=zKL h hS hne hd
  have e:=hc.one hD (fun j hj hz=>Classical.byContradiction fun hn=>by
   have:=hsub _ ((zJJ h hS hd j).1 hn)
   exact(zBY.1 this).2 hz)
  subst e
  obtain⟨k,hk⟩:∃k,S.length=k+1:=⟨S.length-1,by have:=List.length_pos_iff.2 hne;omega⟩
  have h1:¬zFI M n+1<S.length:=fun hlt=>by rw[circ1_many h hlt]at hd;cases hd
  have h2:S.length<=n:=by
   have:=(comb_nodup0 hS)
   exact this
  have h3:=zJH n 0 S hS.1 (fun y hy=>by have:=hS.2 y hy;omega)
  rw[hk]at h3
  exact⟨k,S,by omega,h3,hd⟩
theorem zHM:∀(m k:Nat) (a:Int),(comb m k a).Nodup
 |_,0,_=>by unfold comb;simp
 |0,_+1,_=>by unfold comb;simp
 |m+1,k+1,a=>by
  unfold comb
  rw[List.nodup_append]
  refine⟨?_,zHM m (k+1) (a+1),?_⟩
  ·unfold List.Nodup
   rw[List.pairwise_map]
   exact(zHM m k (a+1)).imp fun h e=>h (by simpa using e)
  ·rintro x hx y hy rfl
   obtain⟨z,_,rfl⟩:=List.mem_map.1 hx
   have:=(zJI _ _ _ _ hy).2 a (by simp)
   omega
structure Perm2 (n:Nat) (s t:Nat->Nat):Prop where
 s_lt:∀i,i<n->s i<n
 t_lt:∀i,i<n->t i<n
 st:∀i,i<n->s (t i)=i
 ts:∀i,i<n->t (s i)=i
theorem Perm2.symm{n:Nat}{s t:Nat->Nat}(h:Perm2 n s t):Perm2 n t s:=⟨h.t_lt,h.s_lt,h.ts,h.st⟩
end
section
def SolM(M:List (List Int))(n:Nat)(y:List Int)(l:Nat->Int)(D:Int):Prop:=0<D∧∀q,q<M.length->sm (fun i=>rowv M q i*l i) n=vec y q*D
theorem zMR{P:Nat->Prop}{a b:Nat->Int}(ha:∀j,P j->0<=a j)(hb:∀j,P j->0<b j):∀n:Nat,(∃j,j<n∧P j)->∃p,p<n∧P p∧∀j,j<n->P j->a p*b j<=a j*b p
 |0,h=>by obtain⟨j,hj,_⟩:=h;omega
 |n+1,h=>by
  by_cases hn:∃j,j<n∧P j
  ·obtain⟨p,hp,hP,hmin⟩:=zMR ha hb n hn
   by_cases hPn:P n∧a n*b p<a p*b n
   ·refine⟨n,by omega,hPn.1,fun j hj hPj=>?_⟩
    rcases Nat.lt_or_ge j n with c|c
    ·have h1:=hmin j c hPj
     -- a n/b n<a p/b p<=a j/b j
     have hbp:=hb p hP
     have hbj:=hb j hPj
     have hbn:=hb n hPn.1
     have h2:a n*b j*b p<=a j*b n*b p:=by
      have e1:a n*b p*b j<=a p*b n*b j:=Int.mul_le_mul_of_nonneg_right (by omega) (by omega)
      have e2:a p*b j*b n<=a j*b p*b n:=Int.mul_le_mul_of_nonneg_right h1 (by omega)
      have e3:a n*b j*b p=a n*b p*b j:=by grind
      have e4:a p*b n*b j=a p*b j*b n:=by grind
      have e5:a j*b n*b p=a j*b p*b n:=by grind
      omega
     exact Int.le_of_mul_le_mul_right h2 hbp
    ·have:j=n:=by omega
     subst this;exact Int.le_refl _
   ·refine⟨p,by omega,hP,fun j hj hPj=>?_⟩
    rcases Nat.lt_or_ge j n with c|c
    ·exact hmin j c hPj
    ·have:j=n:=by omega
     subst this
     rcases Int.lt_or_le (a j*b p) (a p*b j)with h1|h1
     ·exact absurd ⟨hPj,h1⟩ hPn
     ·exact h1
  ·obtain⟨j,hj,hPj⟩:=h
   have:j=n:=by
    rcases Nat.lt_or_ge j n with c|c
    ·exact absurd ⟨j,c,hPj⟩ hn
    ·omega
   subst this
   exact⟨j,by omega,hPj,fun i hi hPi=>by
    rcases Nat.lt_or_ge i j with c|c
    ·exact absurd ⟨i,c,hPi⟩ hn
    ·have:i=j:=by omega
     subst this;exact Int.le_refl _⟩
theorem sm_nonpos{f:Nat->Int}:∀n:Nat,(∀j,j<n->f j<=0)->sm f n<=0
 |0,_=>Int.le_refl _
 |n+1,h=>by
  have:=sm_nonpos n (fun j hj=>h j (by omega))
  have:=h n (by omega)
  show sm f n+f n<=0
  omega
theorem dep_circ{M:List (List Int)}{n:Nat}(hM:MaskOk M n){S:List Int}(hS:zCL n S)(hne:zFI (zAS M S) S.length≠S.length):∃c,c∈circP M n∧c.length=n∧zEC M n (vec c)∧(∀j:Nat,vec c j≠0->(j:Int)∈S)∧∃j,j<n∧vec c j≠0:=by
 have hrk:=(hM.cols S).rank_ker
 have hkl:0<(zIX M S).length:=by
  show 0<(zMX (RP (zAS M S) S.length) (JP (zAS M S) S.length) S.length).length
  omega
 have hm:(zIX M S)[0]∈zIX M S:=List.getElem_mem _
 obtain⟨u,hu⟩:=exq ((zIX M S)[0])
 rw[<- hu]at hm
 obtain⟨k1,k2,k3,f,hf,k4⟩:=(hM.cols S).kern hm
 have hv:=(zFQ (M:=M) hS).2 k1
 obtain⟨v,hve⟩:=exq (vec (zAX n S u S.length))
 have hnz:∃j,j<n∧v j≠0:=by
  have hf2:=hS.2 S[f] (List.getElem_mem hf)
  refine⟨(S[f]).toNat,by omega,?_⟩
  rw[hve]
  exact(zGN hS k2).2 ⟨f,hf,by omega,by omega⟩
 rw[<- hve]at hv
 obtain⟨T,c,hT,hTl,hTne,hSub,hcc⟩:=zNI hM (zBB n v).length v rfl hv hnz
 have hC:=zKL hM hT hTne hcc
 obtain⟨f1,f2,_,f4,f5⟩:=zOO hM hT hTne hcc
 refine⟨c,(circP_iff hM).2 hC,f1,f2,fun j hj=>?_,?_⟩
 ·have h1:=hSub _ ((zJJ hM hT hcc j).1 hj)
  have h2:=(zBY.1 h1).2
  rw[hve]at h2
  obtain⟨i,hi,e,_⟩:=(zGN hS k2).1 h2
  rw[<- e];exact List.getElem_mem hi
 ·obtain⟨j0,hj0,e0,_⟩:=zHK c (by omega)
  exact⟨j0,by omega,by omega⟩
def CostB(M:List (List Int))(n:Nat)(l w:Nat->Int):Prop:=
 ∀c,c∈circP M n->∀e:Int,(e=1∨e= -1)->(∀j,j<n->vec c j≠0->l j≠0)->(∀j,j<n->l j*(e*vec c j)<=0)->sm (fun j=>w j*(e*vec c j)) n<=0
theorem lp_reduce{M:List (List Int)}{n:Nat}(hM:MaskOk M n){y:List Int}(w:Nat->Int):∀(s:Nat) (l:Nat->Int) (D:Int),(zBB n l).length=s->SolM M n y l D->CostB M n l w->
 ∃(k:Nat->Int) (E:Int),SolM M n y k E∧zFI (zAS M (zBB n k)) (zBB n k).length=(zBB n k).length∧(∀j,j<n->k j≠0->0<k j*l j)∧sm (fun j=>w j*k j) n*D<=sm (fun j=>w j*l j) n*E:=by
 intro s
 induction s using Nat.strongRecOn with
 |ind s ih=>
  intro l D hs hl hw
  by_cases hr:zFI (zAS M (zBB n l)) (zBB n l).length=(zBB n l).length
  ·refine⟨l,D,hl,hr,fun j hj h=>?_,Int.le_refl _⟩
   rcases Int.lt_or_gt_of_ne h with c|c
   ·exact Int.mul_pos_of_neg_of_neg c c
   ·exact Int.mul_pos c c
  ·obtain⟨c,hc,hcl,hck,hcs,hcn⟩:=dep_circ hM (zDT n l) hr
   have hsub:∀j,j<n->vec c j≠0->l j≠0:=fun j hj h=>(zBY.1 (hcs j h)).2
   -- the direction:the cost does not grow,and some number becomes less
   have hdir:∃e:Int,(e=1∨e= -1)∧0<=sm (fun j=>w j*(e*vec c j)) n∧∃j,j<n∧0<l j*(e*vec c j):=by
    have hneg:∀e:Int,sm (fun j=>w j*(-e*vec c j)) n= -sm (fun j=>w j*(e*vec c j)) n:=fun e=>by
     have:=zCZ (-1) (fun j=>w j*(e*vec c j)) n
     rw[<- zAL (f:=fun j=> -1*(w j*(e*vec c j))) (g:=fun j=>w j*(-e*vec c j)) (fun j _=>by grind),this]
     omega
    have hex:∀e:Int,(e=1∨e= -1)->¬(∃j,j<n∧0<l j*(e*vec c j))->∀j,j<n->l j*(e*vec c j)<=0:=fun e _ h j hj=>by
     rcases Int.lt_or_le 0 (l j*(e*vec c j))with c1|c1
     ·exact absurd ⟨j,hj,c1⟩ h
     ·exact c1
    rcases Int.lt_trichotomy 0 (sm (fun j=>w j*(1*vec c j)) n)with c1|c1|c1
    ·by_cases h:∃j,j<n∧0<l j*(1*vec c j)
     ·exact⟨1,.inl rfl,by omega,h⟩
     ·have:=hw c hc 1 (.inl rfl) hsub (hex 1 (.inl rfl) h)
      omega
    ·obtain⟨j,hj,hcj⟩:=hcn
     have hlj:=hsub j hj hcj
     rcases Int.lt_or_gt_of_ne (Int.mul_ne_zero hlj hcj)with c2|c2
     ·refine⟨-1,.inr rfl,by rw[hneg 1];omega,j,hj,?_⟩
      have:l j*(-1*vec c j)= -(l j*vec c j):=by grind
      omega
     ·refine⟨1,.inl rfl,by omega,j,hj,?_⟩
      have:l j*(1*vec c j)=l j*vec c j:=by grind
      omega
    ·by_cases h:∃j,j<n∧0<l j*(-1*vec c j)
     ·exact⟨-1,.inr rfl,by rw[hneg 1];omega,h⟩
     ·have:=hw c hc (-1) (.inr rfl) hsub (hex (-1) (.inr rfl) h)
      rw[hneg 1]at this
      omega
   obtain⟨e,he,hσ,hpos⟩:=hdir
   have hen:e≠0:=by rcases he with h|h<;>omega
   obtain⟨h,hh⟩:∃h:Nat->Int,h=fun j=>e*vec c j:=⟨_,rfl⟩
   have hhk:∀q,q<M.length->sm (fun i=>rowv M q i*h i) n=0:=fun q hq=>by
    have:=hck q hq
    unfold dotS at this
    rw[zAL (g:=fun i=>e*(rowv M q i*vec c i)) (fun i _=>by rw[hh];grind),zCZ,this]
    simp
   have hhs:∀j,j<n->h j≠0->l j≠0:=fun j hj hz=>hsub j hj fun hz2=>hz (by rw[hh];simp[hz2])
   have hσ':0<=sm (fun j=>w j*h j) n:=by rw[hh];exact hσ
   have hpos':∃j,j<n∧0<l j*h j:=by rw[hh];exact hpos
   clear hσ hpos
   -- the least ratio
   obtain⟨p,hp,hPp,hmin⟩:=zMR (P:=fun j=>0<l j*h j) (a:=fun j=>((l j).natAbs:Int)) (b:=fun j=>((h j).natAbs:Int)) (fun j _=>by omega) (fun j hj=>by
    have:h j≠0:=fun hz=>by rw[hz]at hj;simp at hj
    omega) n hpos'
   have hhp:h p≠0:=fun hz=>by rw[hz]at hPp;simp at hPp
   have hlp:l p≠0:=fun hz=>by rw[hz]at hPp;simp at hPp
   obtain⟨A,hA⟩:∃A:Int,A=((h p).natAbs:Int):=⟨_,rfl⟩
   obtain⟨B,hB⟩:∃B:Int,B=((l p).natAbs:Int):=⟨_,rfl⟩
   have hA0:0<A:=by omega
   have hB0:0<B:=by omega
   obtain⟨k,hk⟩:∃k:Nat->Int,k=fun j=>A*l j-B*h j:=⟨_,rfl⟩
   have hkp:k p=0:=by
    rw[hk,hA,hB]
    show((h p).natAbs:Int)*l p-((l p).natAbs:Int)*h p=0
    rcases Int.lt_or_gt_of_ne hhp with c1|c1
    ·have c2:l p<0:=by
      rcases Int.lt_or_gt_of_ne hlp with c2|c2
      ·exact c2
      ·have:=Int.mul_neg_of_pos_of_neg c2 c1;omega
     have e1:((h p).natAbs:Int)= -h p:=by omega
     have e2:((l p).natAbs:Int)= -l p:=by omega
     rw[e1,e2];grind
    ·have c2:0<l p:=by
      rcases Int.lt_or_gt_of_ne hlp with c2|c2
      ·have:=Int.mul_neg_of_neg_of_pos c2 c1;omega
      ·exact c2
     have e1:((h p).natAbs:Int)=h p:=by omega
     have e2:((l p).natAbs:Int)=l p:=by omega
     rw[e1,e2];grind
   have hkl0:∀j,j<n->k j≠0->l j≠0:=fun j hj hz hz2=>by
    apply hz
    have h0:h j=0:=Classical.byContradiction fun h1=>hhs j hj h1 hz2
    rw[hk];show A*l j-B*h j=0
    rw[hz2,h0];simp
   have hks:∀j,j<n->0<=k j*l j:=fun j hj=>by
    rw[hk]
    show 0<=(A*l j-B*h j)*l j
    have e1:(A*l j-B*h j)*l j=A*(l j*l j)-B*(l j*h j):=by grind
    rw[e1]
    have e2:0<=A*(l j*l j):=Int.mul_nonneg (by omega) (by
     rcases Int.lt_or_le (l j) 0 with c1|c1
     ·exact Int.le_of_lt (Int.mul_pos_of_neg_of_neg c1 c1)
     ·exact Int.mul_nonneg c1 c1)
    rcases Int.lt_or_le 0 (l j*h j)with c1|c1
    ·have h1:((l p).natAbs:Int)*((h j).natAbs:Int)<=((l j).natAbs:Int)*((h p).natAbs:Int):=hmin j hj c1
     rw[<- hA,<- hB]at h1
     -- B* |h j| <= |l j| *A,times|l j|
     have h2:B*((h j).natAbs:Int)*((l j).natAbs:Int)<=((l j).natAbs:Int)*A*((l j).natAbs:Int):=Int.mul_le_mul_of_nonneg_right h1 (by omega)
     have h3:((l j).natAbs:Int)*((l j).natAbs:Int)=l j*l j:=by rw[<- Int.natCast_mul,<- Int.natAbs_mul,Int.natAbs_of_nonneg];exact(by
      rcases Int.lt_or_le (l j) 0 with c1|c1
      ·exact Int.le_of_lt (Int.mul_pos_of_neg_of_neg c1 c1)
      ·exact Int.mul_nonneg c1 c1)
     have h4:((h j).natAbs:Int)*((l j).natAbs:Int)=l j*h j:=by rw[Int.mul_comm,<- Int.natCast_mul,<- Int.natAbs_mul,Int.natAbs_of_nonneg (by omega)]
     have h5:B*((h j).natAbs:Int)*((l j).natAbs:Int)=B*(l j*h j):=by rw[Int.mul_assoc,h4]
     have h6:((l j).natAbs:Int)*A*((l j).natAbs:Int)=A*(l j*l j):=by rw[<- h3];grind
     omega
    ·have:B*(l j*h j)<=0:=Int.mul_nonpos_of_nonneg_of_nonpos (by omega) c1
     omega
   have hsol:SolM M n y k (D*A):=by
    refine⟨Int.mul_pos hl.1 hA0,fun q hq=>?_⟩
    have e1:=hl.2 q hq
    have e2:=hhk q hq
    rw[zAL (g:=fun i=>A*(rowv M q i*l i)+(-B)*(rowv M q i*h i)) (fun i _=>by rw[hk];grind),zHP,zCZ,zCZ,e1,e2]
    grind
   have hlt:(zBB n k).length<s:=by
    rw[<- hs]
    have hn1:(zBB n k).Nodup:=(zDT n k).1.imp (fun h=>by omega)
    have hpm:(p:Int)∈zBB n l:=zBY.2 ⟨hp,hlp⟩
    have hpn:(p:Int)∉zBB n k:=fun hm=>(zBY.1 hm).2 hkp
    have:=zIT (l:=(p:Int)::zBB n k) (m:=zBB n l) (List.nodup_cons.2 ⟨hpn,hn1⟩) (fun x hx=>by
     rcases List.mem_cons.1 hx with rfl|hx
     ·exact hpm
     ·have hb:=(zDT n k).2 x hx
      obtain⟨j,rfl⟩:∃j:Nat,x=(j:Int):=⟨x.toNat,by omega⟩
      obtain⟨h1,h2⟩:=zBY.1 hx
      exact zBY.2 ⟨h1,hkl0 j h1 h2⟩)
    simp at this
    omega
   have hw':CostB M n k w:=fun d hd f hf hdl hdn=>by
    refine hw d hd f hf (fun j hj hz=>hkl0 j hj (hdl j hj hz)) (fun j hj=>?_)
    by_cases hz:vec d j=0
    ·rw[hz];simp
    ·have hkj:=hdl j hj hz
     have h1:=hdn j hj
     have h2:=hks j hj
     have hlj:=hkl0 j hj hkj
     -- k and l have one sign
     rcases Int.lt_or_gt_of_ne hkj with c1|c1
     ·have c2:l j<0:=by
       rcases Int.lt_or_gt_of_ne hlj with c2|c2
       ·exact c2
       ·have:=Int.mul_neg_of_neg_of_pos c1 c2;omega
      have c3:0<=f*vec d j:=by
       rcases Int.lt_or_le (f*vec d j) 0 with c3|c3
       ·have:=Int.mul_pos_of_neg_of_neg c1 c3;omega
       ·exact c3
      exact Int.mul_nonpos_of_nonpos_of_nonneg (by omega) c3
     ·have c2:0<l j:=by
       rcases Int.lt_or_gt_of_ne hlj with c2|c2
       ·have:=Int.mul_neg_of_pos_of_neg c1 c2;omega
       ·exact c2
      have c3:f*vec d j<=0:=by
       rcases Int.lt_or_le 0 (f*vec d j)with c3|c3
       ·have:=Int.mul_pos c1 c3;omega
       ·exact c3
      exact Int.mul_nonpos_of_nonneg_of_nonpos (by omega) c3
   obtain⟨z,E,hz1,hz2,hz3,hz4⟩:=ih _ hlt k (D*A) rfl hsol hw'
   refine⟨z,E,hz1,hz2,fun j hj hzj=>?_,?_⟩
   ·have h1:=hz3 j hj hzj
    have hkj:k j≠0:=fun e0=>by rw[e0]at h1;simp at h1
    have h2:=hks j hj
    have hlj:=hkl0 j hj hkj
    rcases Int.lt_or_gt_of_ne hkj with c1|c1
    ·have c2:l j<0:=by
      rcases Int.lt_or_gt_of_ne hlj with c2|c2
      ·exact c2
      ·have:=Int.mul_neg_of_neg_of_pos c1 c2;omega
     have c3:z j<0:=by
      rcases Int.lt_or_le (z j) 0 with c3|c3
      ·exact c3
      ·have:=Int.mul_nonpos_of_nonneg_of_nonpos c3 (show k j<=0 by omega);omega
     exact Int.mul_pos_of_neg_of_neg c3 c2
    ·have c2:0<l j:=by
      rcases Int.lt_or_gt_of_ne hlj with c2|c2
      ·have:=Int.mul_neg_of_pos_of_neg c1 c2;omega
      ·exact c2
     have c3:0<z j:=by
      rcases Int.lt_or_le 0 (z j)with c3|c3
      ·exact c3
      ·have:=Int.mul_nonpos_of_nonpos_of_nonneg c3 (show 0<=k j by omega);omega
     exact Int.mul_pos c3 c2
   ·-- the cost
    have hcost:sm (fun j=>w j*k j) n=A*sm (fun j=>w j*l j) n-B*sm (fun j=>w j*h j) n:=by
     rw[zAL (g:=fun j=>A*(w j*l j)+(-B)*(w j*h j)) (fun i _=>by rw[hk];grind),zHP,zCZ,zCZ]
     have: -B*sm (fun j=>w j*h j) n= -(B*sm (fun j=>w j*h j) n):=by grind
     omega
    have hBσ:0<=B*sm (fun j=>w j*h j) n:=Int.mul_nonneg (by omega) hσ'
    have hE:=hz1.1
    have h1:sm (fun j=>w j*k j) n*E<=A*sm (fun j=>w j*l j) n*E:=Int.mul_le_mul_of_nonneg_right (by omega) (by omega)
    have h2:sm (fun j=>w j*z j) n*D*A<=sm (fun j=>w j*l j) n*E*A:=by
     have e1:sm (fun j=>w j*z j) n*D*A=sm (fun j=>w j*z j) n*(D*A):=by grind
     have e2:sm (fun j=>w j*l j) n*E*A=A*sm (fun j=>w j*l j) n*E:=by grind
     omega
    exact Int.le_of_mul_le_mul_right h2 hA0
end
section
def nrmI(l:Nat->Int)(n:Nat):Int:=sm (fun j=>((l j).natAbs:Int)) n
theorem nrmI_pos(l:Nat->Int):∀n,0<=nrmI l n
 |0=>Int.le_refl _
 |n+1=>by
  have:=nrmI_pos l n
  show 0<=nrmI l n+((l n).natAbs:Int)
  omega
def zCM(x:List Rt):Nat->Int×Int
 |0=>(0,1)
 |k+1=>((zCM x k).1*(zAB x k).2+(zCM x k).2*((zAB x k).1.natAbs:Int),(zCM x k).2*(zAB x k).2)
def nrmQ(x:List Rt):Int×Int:=zCM x x.length
theorem zEU{x:List Rt}(h:∀k,0<(zAB x k).2):∀k,0<(zCM x k).2∧0<=(zCM x k).1
 |0=>⟨by show(0:Int)<1;omega,Int.le_refl _⟩
 |k+1=>by
  obtain⟨h1,h2⟩:=zEU h k
  have h3:=h k
  exact⟨Int.mul_pos h1 h3,Int.add_nonneg (Int.mul_nonneg h2 (by omega)) (Int.mul_nonneg (by omega) (by omega))⟩
theorem zEB{x:List Rt}{l:Nat->Int}{D:Int}(hD:0<D)(hp:∀k,0<(zAB x k).2):∀n,(∀k,k<n->(zAB x k).1*D=l k*(zAB x k).2)->(zCM x n).1*D=(zCM x n).2*nrmI l n
 |0,_=>by simp[zCM,nrmI,sm]
 |n+1,h=>by
  have ih:=zEB hD hp n (fun k hk=>h k (by omega))
  have e:=h n (by omega)
  have e2:((zAB x n).1.natAbs:Int)*D=((l n).natAbs:Int)*(zAB x n).2:=by
   have h1:=congrArg Int.natAbs e
   rw[Int.natAbs_mul,Int.natAbs_mul]at h1
   have h2:=hp n
   have h3:(((zAB x n).1.natAbs*D.natAbs:Nat):Int)=(((l n).natAbs*(zAB x n).2.natAbs:Nat):Int):=by rw[h1]
   rw[Int.natCast_mul,Int.natCast_mul]at h3
   have h4:((D.natAbs:Nat):Int)=D:=by omega
   have h5:(((zAB x n).2.natAbs:Nat):Int)=(zAB x n).2:=by omega
   rw[h4,h5]at h3
   exact h3
  show((zCM x n).1*(zAB x n).2+(zCM x n).2*((zAB x n).1.natAbs:Int))*D=(zCM x n).2*(zAB x n).2*(nrmI l n+((l n).natAbs:Int))
  generalize (zCM x n).1=a at*
  generalize (zCM x n).2=b at*
  generalize (zAB x n).2=c at*
  generalize ((zAB x n).1.natAbs:Int)=u at*
  generalize ((l n).natAbs:Int)=v at*
  generalize nrmI l n=N at*
  have:(a*c+b*u)*D=(a*D)*c+b*(u*D):=by grind
  rw[this,ih,e2];grind
def sgnI(z:Int):Int:=if z<0 then-1 else if z=0 then 0 else 1
theorem zIH(z:Int):sgnI z*z=(z.natAbs:Int):=by unfold sgnI;split<;>(try split)<;>omega
theorem sgnI_same{z k:Int}(h:k≠0->0<k*z):sgnI z*k=(k.natAbs:Int):=by
 by_cases hk:k=0
 ·subst hk;simp
 ·have h1:=h hk
  unfold sgnI
  rcases Int.lt_or_gt_of_ne hk with c|c
  ·have:z<0:=by
    rcases Int.lt_or_le z 0 with c2|c2
    ·exact c2
    ·have:=Int.mul_nonpos_of_nonpos_of_nonneg (show k<=0 by omega) c2;omega
   rw[if_pos this];omega
  ·have:0<z:=by
    rcases Int.lt_or_le 0 z with c2|c2
    ·exact c2
    ·have:=Int.mul_nonpos_of_nonneg_of_nonpos (show 0<=k by omega) c2;omega
   rw[if_neg (by omega),if_neg (by omega)];omega
theorem sgnI_opp{z h:Int}(h1:z*h<=0):sgnI z*h<=0:=by
 unfold sgnI
 split
 ·rename_i c
  rcases Int.lt_or_le h 0 with c2|c2
  ·have:=Int.mul_pos_of_neg_of_neg c c2;omega
  ·omega
 ·split
  ·simp
  ·rename_i c c1
   rcases Int.lt_or_le 0 h with c2|c2
   ·have:=Int.mul_pos (show 0<z by omega) c2;omega
   ·omega
theorem lp_norm{M:List (List Int)}{n:Nat}(hM:MaskOk M n){y:List Int}{l:Nat->Int}{D:Int}(hl:SolM M n y l D):
 ∃(k:Nat->Int) (E:Int),SolM M n y k E∧zFI (zAS M (zBB n k)) (zBB n k).length=(zBB n k).length∧(∀j,j<n->k j≠0->0<k j*l j)∧nrmI k n*D<=nrmI l n*E:=by
 obtain⟨k,E,h1,h2,h3,h4⟩:=lp_reduce hM (fun j=>sgnI (l j)) _ l D rfl hl (fun c hc e he hs ho=>sm_nonpos n fun j hj=>sgnI_opp (ho j hj))
 refine⟨k,E,h1,h2,h3,?_⟩
 have e1:sm (fun j=>sgnI (l j)*k j) n=nrmI k n:=zAL fun j hj=>sgnI_same (h3 j hj)
 have e2:sm (fun j=>sgnI (l j)*l j) n=nrmI l n:=zAL fun j hj=>zIH _
 rw[e1,e2]at h4
 exact h4
end
section
theorem solve_vals{R:List (List Int)}{n:Nat}(he:(zAY R n).2=0):(zAY R n).1=(List.range n).map fun k=>ofF (vec ((pRed R n).1[k]?.getD []) n) (vec ((pRed R n).1[k]?.getD []) (jf (pRed R n).2 k)):=by
 unfold zAY at he⊢
 simp only[]at he⊢
 split at he
 ·simp at he
 ·rename_i h1
  split at he
  ·simp at he
  ·rename_i h2
   rw[if_neg h1,if_neg h2]
theorem zGP{M:List (List Int)}{n:Nat}(h:MaskOk M n){y:List Int}(hy:y.length=M.length)(hmil:∀v∈y,-1000000<=v∧v<=1000000)(he:(zAY (zAK M y) n).2=0):
 ∃(l:Nat->Int) (D:Int),0<D∧D<=288∧(∀k,k<n->(zAB (zAY (zAK M y) n).1 k).1*D=l k*(zAB (zAY (zAK M y) n).1 k).2)∧(∀k,k<n->(l k).natAbs<=720000000)∧
  SolM M n y l D∧(∀k,0<(zAB (zAY (zAK M y) n).1 k).2)∧zFI M n=n∧(∀k,zAH (zAB (zAY (zAK M y) n).1 k)=true):=by
 obtain⟨hr,l',D',hD',k1,k2⟩:=solve_to h hy hmil he
 have hY:=h.addY hy (Y:=1000000) (by decide) (by simpa using hmil)
 have hi:=zCK (zAK M y) hY.wid n (fun j hj q=>zCC (by decide) (fun r hr=>hY.one r hr j hj) q)
 have hpiv:=zLX h hy hY
 have hJl:(pRed (zAK M y) n).2.length=n:=by rw[hpiv];exact hr
 have hasc:(pRed (zAK M y) n).2=List.range' 0 n:=zLT hi.asc (fun x hx=>by have:=hi.lt x hx;omega) hJl
 have hjf:∀k,k<n->jf (pRed (zAK M y) n).2 k=k:=fun k hk=>by
  rw[hasc];unfold jf;rw[List.getElem?_range' hk];simp
 have hval:=solve_vals he
 have hat:∀k,k<n->zAB (zAY (zAK M y) n).1 k=ofF (rowv (pRed (zAK M y) n).1 k n) (rowv (pRed (zAK M y) n).1 k k):=fun k hk=>by
  rw[hval]
  unfold zAB
  rw[List.getElem?_map,List.getElem?_range hk]
  simp only[Option.map_some,Option.getD_some]
  rw[hjf k hk];rfl
 have hout:∀k,n<=k->zAB (zAY (zAK M y) n).1 k=(0,1):=fun k hk=>by
  rw[hval];unfold zAB
  rw[List.getElem?_eq_none (by simp;exact hk)];rfl
 have hJ1:∀x∈(pRed (zAK M y) n).2,∀r,-1<=rowv (zAK M y) r x∧rowv (zAK M y) r x<=1:=fun x hx r=>zCC (by decide) (fun r hr=>hY.one r hr x (hi.lt x hx)) r
 have hpv:=fun k (hk:k<n)=>hi.piv_288 hY.le6 hJ1 (k:=k) (by omega)
 obtain⟨A,hs,hA⟩:=hi.st
 have hA1:∀k,k<(pRed (zAK M y) n).2.length->∀r,-1<=A r (jf (pRed (zAK M y) n).2 k)∧A r (jf (pRed (zAK M y) n).2 k)<=1:=by
  intro k hk r
  obtain⟨q0,e⟩:=hA r
  rw[e]
  exact hJ1 _ (by unfold jf;rw[List.getElem?_eq_getElem hk];exact List.getElem_mem hk) q0
 have hAY:∀r,-(1000000:Int)<=A r n∧A r n<=1000000:=fun r=>by
  obtain⟨q0,e⟩:=hA r
  rw[e]
  exact zCC (c:=n) (by omega) (fun r hr=>zED (P:=fun x=> -(1000000:Int)<=x∧x<=1000000) (by omega) (hY.all r hr) n) q0
 have hd288:=det_288 (zCU (jf (pRed (zAK M y) n).2) A (pRed (zAK M y) n).2.length) (fun x hx r=>by
  obtain⟨k,hk,rfl⟩:=zFU.1 hx
  exact hA1 k hk r) (zCO (pRed (zAK M y) n).2.length) (by rw[zEY,zDC]) (by rw[zDC];exact Nat.le_trans hs.le hY.le6)
 have hd0:=hs.d0
 obtain⟨d,hd⟩:=exq (det (zCU (jf (pRed (zAK M y) n).2) A (pRed (zAK M y) n).2.length) (zCO (pRed (zAK M y) n).2.length))
 rw[<- hd]at hd288 hd0
 -- the minors
 have hmin:∀k,k<n->∃E:Int,E.natAbs<=720000000∧rowv (pRed (zAK M y) n).1 k k*E=d*rowv (pRed (zAK M y) n).1 k n:=by
  intro k hk
  have hk':k<(pRed (zAK M y) n).2.length:=by omega
  obtain⟨⟨s,hs2,e0⟩,e⟩:=hs.minorU hk'
  rw[<- hd]at e0
  have e1:=e n
  rw[e0,hjf k hk]at e1
  have hl:=(zGB (J:=jf (pRed (zAK M y) n).2) (A:=A) hk').2
  have hb:=det_le2 (c:=fun r=>A r n) hAY (zBS (jf (pRed (zAK M y) n).2) A k (pRed (zAK M y) n).2.length) (fun d hd r=>by obtain⟨k,hk,rfl⟩:=zDO hd;exact hA1 k hk r) (zCO (pRed (zAK M y) n).2.length) (by rw[zEY];exact hl.symm)
  rw[hl]at hb
  have hK6:(pRed (zAK M y) n).2.length<=6:=Nat.le_trans hs.le hY.le6
  have hfact:∀a:Nat,a+1<=6->((a+1:Nat):Int)*(1000000*(fact a:Int))<=720000000:=fun a ha=>by
   have:a=0∨a=1∨a=2∨a=3∨a=4∨a=5:=by omega
   rcases this with rfl|rfl|rfl|rfl|rfl|rfl<;>decide
  have hf:=hfact (zBS (jf (pRed (zAK M y) n).2) A k (pRed (zAK M y) n).2.length).length (by omega)
  rw[hl]at hf
  refine⟨s*minorU (pRed (zAK M y) n).2.length (jf (pRed (zAK M y) n).2) A k n,?_,?_⟩
  ·have:(s*minorU (pRed (zAK M y) n).2.length (jf (pRed (zAK M y) n).2) A k n).natAbs=(minorU (pRed (zAK M y) n).2.length (jf (pRed (zAK M y) n).2) A k n).natAbs:=by
    rw[Int.natAbs_mul]
    rcases hs2 with rfl|rfl<;>simp
   rw[this]
   unfold minorU
   omega
  ·have h1:s*s=1:=by rcases hs2 with rfl|rfl<;>rfl
   generalize minorU (pRed (zAK M y) n).2.length (jf (pRed (zAK M y) n).2) A k n=E at*
   generalize rowv (pRed (zAK M y) n).1 k k=b at*
   generalize rowv (pRed (zAK M y) n).1 k n=a at*
   have:b*(s*E)=s*(b*E):=by grind
   rw[this,e1]
   have:s*(s*d*a)=(s*s)*(d*a):=by grind
   rw[this,h1];omega
 -- the values over|d|
 have key:∀k,k<n->∃E:Int,E.natAbs<=720000000∧(zAB (zAY (zAK M y) n).1 k).1*(d.natAbs:Int)=E*(zAB (zAY (zAK M y) n).1 k).2:=by
  intro k hk
  obtain⟨E,h1,h2⟩:=hmin k hk
  have hb:=(hpv k hk).1
  rw[hjf k hk]at hb
  rw[hat k hk,zMP hb]
  obtain⟨c1,_,_,_,c5⟩:=zDI (a:=rowv (pRed (zAK M y) n).1 k n) hb
  generalize rowv (pRed (zAK M y) n).1 k k=b at*
  generalize rowv (pRed (zAK M y) n).1 k n=a at*
  generalize zAR a b=p at*
  obtain⟨p1,p2⟩:=p
  dsimp only at*
  have e1:b*(p1*d)=b*(E*p2):=by
   have:b*(p1*d)=(p1*b)*d:=by grind
   rw[this,c5]
   have:b*(E*p2)=(b*E)*p2:=by grind
   rw[this,h2];grind
  have e2:=Int.eq_of_mul_eq_mul_left (show b≠0 by omega) e1
  rcases Int.lt_or_le d 0 with c|c
  ·refine⟨-E,by omega,?_⟩
   have:(d.natAbs:Int)= -d:=by omega
   rw[this,Int.mul_neg,e2,Int.neg_mul]
  ·refine⟨E,h1,?_⟩
   have:(d.natAbs:Int)=d:=by omega
   rw[this,e2]
 have hpos:∀k,0<(zAB (zAY (zAK M y) n).1 k).2:=fun k=>by
  rcases Nat.lt_or_ge k n with hk|hk
  ·have hb:=(hpv k hk).1
   rw[hjf k hk]at hb
   rw[hat k hk,zMP hb]
   exact(zDI hb).1
  ·rw[hout k hk];decide
 have hex:∃l:Nat->Int,∀k,k<n->(l k).natAbs<=720000000∧(zAB (zAY (zAK M y) n).1 k).1*(d.natAbs:Int)=l k*(zAB (zAY (zAK M y) n).1 k).2:=by
  refine⟨fun k=>if hk:k<n then Classical.choose (key k hk)else 0,fun k hk=>?_⟩
  simp only[dif_pos hk]
  exact Classical.choose_spec (key k hk)
 obtain⟨l,hl⟩:=hex
 refine⟨l,(d.natAbs:Int),by omega,by omega,fun k hk=>(hl k hk).2,fun k hk=>(hl k hk).1,⟨by omega,fun q hq=>?_⟩,hpos,hr,fun k=>?_⟩
 ·-- the system
  have e1:=k1 q hq
  have e2:∀c,c<n->D'*(rowv M q c*l c)=(d.natAbs:Int)*(rowv M q c*l' c):=fun c hc=>by
   have h1:=(hl c hc).2
   have h2:=k2 c hc
   have hp:=hpos c
   generalize zAB (zAY (zAK M y) n).1 c=p at*
   obtain⟨p1,p2⟩:=p
   dsimp only at*
   have h3:p2*(l c*D')=p2*(l' c*(d.natAbs:Int)):=by
    have:p2*(l c*D')=(l c*p2)*D':=by grind
    rw[this,<- h1]
    have:p1*(d.natAbs:Int)*D'=(p1*D')*(d.natAbs:Int):=by grind
    rw[this,h2];grind
   have h4:=Int.eq_of_mul_eq_mul_left (show p2≠0 by omega) h3
   have:D'*(rowv M q c*l c)=rowv M q c*(l c*D'):=by grind
   rw[this,h4];grind
  have e3:D'*sm (fun i=>rowv M q i*l i) n=D'*(vec y q*(d.natAbs:Int)):=by
   rw[<- zCZ,zAL e2,zCZ,e1];grind
  exact Int.eq_of_mul_eq_mul_left (show D'≠0 by omega) e3
 ·rcases Nat.lt_or_ge k n with hk|hk
  ·have hb:=hpv k hk
   rw[hjf k hk]at hb
   rw[hat k hk,zMP hb.1]
   have b3:=sys_le hY k n
   obtain⟨c1,c2,c3,c4,_⟩:=zDI (a:=rowv (pRed (zAK M y) n).1 k n) hb.1
   rw[zAW]
   exact⟨by omega,by omega,by omega,by omega,c4⟩
  ·rw[hout k hk];decide
theorem nrmI_le{l:Nat->Int}{B:Nat}:∀n:Nat,(∀k,k<n->(l k).natAbs<=B)->nrmI l n<=((n*B:Nat):Int)
 |0,_=>by simp[nrmI,sm]
 |n+1,h=>by
  have h1:=nrmI_le n (fun k hk=>h k (by omega))
  have h2:=h n (by omega)
  show nrmI l n+((l n).natAbs:Int)<=_
  rw[Nat.succ_mul];omega
theorem solve_norm{M:List (List Int)}{n:Nat}(h:MaskOk M n){y:List Int}(hy:y.length=M.length)(hmil:∀v∈y,-1000000<=v∧v<=1000000)(he:(zAY (zAK M y) n).2=0):
 0<(zCM (zAY (zAK M y) n).1 n).2∧zAH (zAR (zCM (zAY (zAK M y) n).1 n).1 (zCM (zAY (zAK M y) n).1 n).2)=true:=by
 obtain⟨l,D,hD,hD288,h1,h2,_,hp,hr,_⟩:=zGP h hy hmil he
 obtain⟨p1,p2⟩:=zEU hp n
 refine⟨p1,?_⟩
 have e:=zEB hD hp n h1
 have hn6:n<=6:=by have:=rank_le h;have:=h.le6;omega
 have hl:=nrmI_le n h2
 have hN:=nrmI_pos l n
 have e2:zAR (zCM (zAY (zAK M y) n).1 n).1 (zCM (zAY (zAK M y) n).1 n).2=zAR (nrmI l n) D:=zIK p1 hD (by rw[e,Int.mul_comm])
 rw[e2]
 obtain⟨c1,c2,c3,c4,_⟩:=zDI (a:=nrmI l n) hD
 have:n*720000000<=6*720000000:=Nat.mul_le_mul_right _ hn6
 rw[zAW]
 exact⟨by omega,by omega,by omega,by omega,c4⟩
end
section
open Go.RowKit
def OptV(w:World)(lo:Nat)(S:Nat->Prop)(o:Option (List Int))(v:Value):Prop:=
 (o=none∧v=.slice none 0 0)∨∃x b cap,o=some x∧v=.slice (some ⟨b,0,none⟩) x.length cap∧lo<=b∧S b∧zBQ w b x∧1<=x.length∧x.length<=maxLen
theorem OptV.keep{w w':World}{lo:Nat}{S S' K:Nat->Prop}{o:Option (List Int)}{v:Value}(h:OptV w lo S o v)(hk:Keep K w w')(hS:∀b,lo<=b->b<w.heap.size->S b->K b∧S' b):OptV w' lo S' o v:=by
 rcases h with h|⟨x,b,cap,h1,h2,h3,h4,h5,h6,h7⟩
 ·exact .inl h
 ·have:=hS b h3 h5.lt h4
  exact .inr ⟨x,b,cap,h1,h2,h3,this.2,h5.keep (hk.block b h5.lt this.1),h6,h7⟩
theorem OptV.below{w w':World}{lo:Nat}{S:Nat->Prop}{o:Option (List Int)}{v:Value}(h:OptV w lo S o v)(hb:Below w.heap.size w w'):OptV w' lo S o v:=
 h.keep (Keep.of_below hb:Keep (fun _=>True) _ _) (fun _ _ _ h=>⟨trivial,h⟩)
end
section
open Go.RowKit
theorem OptV.mono{w:World}{lo lo':Nat}{S S':Nat->Prop}{o:Option (List Int)}{v:Value}(h:OptV w lo S o v)(hl:lo'<=lo)(hS:∀b,lo<=b->S b->S' b):OptV w lo' S' o v:=by
 rcases h with h|⟨x,b,cap,h1,h2,h3,h4,h5⟩
 ·exact .inl h
 ·exact .inr ⟨x,b,cap,h1,h2,Nat.le_trans hl h3,hS b h3 h4,h5⟩
def DecV(M:Mask)(k:Int)(fs:List Frm)(lo:Nat)(S:Nat->Prop)(j:Nat)(v u:Value)(W:World):Prop:=
 v=.int .i64 j∧OptV W lo (fun b=>¬S b) (decAt M k fs (j+1)) u
end
section
open Go.RowKit
attribute [local go_sem] Oper.semAt_some
theorem DecV.keep{M:Mask}{k:Int}{fs:List Frm}{lo:Nat}{S:Nat->Prop}{j:Nat}{v u:Value}{A B:World}{T:Nat->Prop}(h:DecV M k fs lo S j v u A)(hk:Keep T A B)(hT:∀q,lo<=q->T q):DecV M k fs lo S j v u B:=
 ⟨h.1,h.2.keep hk fun b h1 _ h2=>⟨hT b h1,h2⟩⟩
end
section
open Go.RowKit
def fitsR(M:Mask)(y:List Int)(k:Int):List FitT:=(allF M y).filter (fun f=>decide ((f.1.length:Int)<=k))
end
section
open Go.RowKit
theorem zKN{M:Mask}{y:List Int}{f:FitT}(h:f∈allF M y):zCL (zAC M) f.1∧f.2.length=f.1.length∧f.1.length<=zAC M:=by
 unfold allF at h
 obtain⟨S,hS,e⟩:=List.mem_filterMap.1 h
 obtain⟨h1,h2⟩:=fitF_len e
 rw[h1]
 exact⟨(allS_ok hS).2,h2,(allS_ok hS).1⟩
end
section
theorem lvls_fits(M:Mask)(y:List Int)(n:Nat):∀k,(lvls n k).filterMap (fitF M y)=zBX M y n (k+1)
 |0=>by
  rw[zCN]
  show(comb n 0 0).filterMap (fitF M y)=zBX M y n 0++_
  simp[zBX]
 |k+1=>by
  rw[zCN,<- lvls_fits M y n k]
  show(lvls n k++comb n (k+1) 0).filterMap (fitF M y)=_
  rw[List.filterMap_append]
theorem allF_to(M:Mask)(y:List Int):allF M y=zBX M y (zAC M) (zAC M+1):=lvls_fits M y _ _
theorem fits_size{M:Mask}{y:List Int}{W j:Nat}{f:FitT}(h:f∈(comb W j 0).filterMap (fitF M y)):f.1.length=j:=by
 obtain⟨S,hS,e⟩:=List.mem_filterMap.1 h
 rw[(fitF_len e).1]
 exact zDD _ _ _ _ hS
theorem fits_cut(M:Mask)(y:List Int)(W k:Nat):∀t,(zBX M y W t).filter (fun f=>decide ((f.1.length:Int)<=(k:Int)))=zBX M y W (min t (k+1))
 |0=>by simp[zBX]
 |t+1=>by
  rw[zCN,List.filter_append,fits_cut M y W k t]
  rcases Nat.lt_or_ge k t with h|h
  ·have h1:((comb W t 0).filterMap (fitF M y)).filter (fun f=>decide ((f.1.length:Int)<=(k:Int)))=[]:=by
    rw[List.filter_eq_nil_iff]
    intro f hf
    have:=fits_size hf
    simp;omega
   rw[h1,List.append_nil,show min t (k+1)=k+1 by omega,show min (t+1) (k+1)=k+1 by omega]
  ·have h1:((comb W t 0).filterMap (fitF M y)).filter (fun f=>decide ((f.1.length:Int)<=(k:Int)))=(comb W t 0).filterMap (fitF M y):=by
    rw[List.filter_eq_self]
    intro f hf
    have:=fits_size hf
    simp;omega
   rw[h1,show min t (k+1)=t by omega,show min (t+1) (k+1)=t+1 by omega,zCN]
theorem fit_long{M:Mask}{y S:List Int}(h:M.length<S.length):fitF M y S=none:=by
 unfold fitF
 rw[if_neg]
 rintro⟨h0,_⟩
 unfold zCA at h0
 split at h0
 ·rename_i hc
  obtain⟨hM,hy,hyB,hS⟩:=zFG hc
  have hmo:=(zDJ hM).1
  have hY:=(hmo.cols S).addY (y:=y) (by rw[zBK];exact hy) (Y:=1000000) (by decide) (fun v hv=>by
   unfold milB at hyB
   have:=List.all_eq_true.1 hyB v hv
   unfold inB at this
   simp at this;omega)
  have hi:=zCK (zAK (zAS M S) y) hY.wid S.length (fun j hj q=>zCC (by decide) (fun r hr=>hY.one r hr j hj) q)
  have hk:=hi.K_le
  rw[zDV (by rw[zBK];exact hy),zBK]at hk
  unfold zAY at h0
  simp only[]at h0
  split at h0
  ·simp at h0
  ·split at h0
   ·simp at h0
   ·omega
 ·rename_i hc;exact hc h0
theorem fits_long(M:Mask)(y:List Int)(W:Nat):∀d,zBX M y W (M.length+1+d)=zBX M y W (M.length+1)
 |0=>rfl
 |d+1=>by
  rw[show M.length+1+(d+1)=(M.length+1+d)+1 by omega,zCN,fits_long M y W d]
  have h1:(comb W (M.length+1+d) 0).filterMap (fitF M y)=[]:=by
   rw[List.filterMap_eq_nil_iff]
   intro S hS
   refine fit_long ?_
   rw[zDD _ _ _ _ hS];omega
  rw[h1,List.append_nil]
theorem fits_same(M:Mask)(y:List Int)(k:Nat):fitsR M y (k:Int)=zBM M y k:=by
 unfold fitsR zBM
 rw[allF_to,fits_cut]
 rcases Nat.lt_or_ge M.length (min k (zAC M))with h|h
 ·obtain⟨d,hd⟩:∃d,min (zAC M+1) (k+1)=M.length+1+d:=⟨min (zAC M+1) (k+1)-(M.length+1),by omega⟩
  rw[hd,fits_long,show min (min k (zAC M)) M.length+1=M.length+1 by omega]
 ·rw[show min (zAC M+1) (k+1)=min (min k (zAC M)) M.length+1 by omega]
end
section
open Go.RowKit
attribute [local go_sem] Oper.semAt_some
structure MissI (w w3:World) (ob:Nat) (fp:Nat->Prop) (S:Nat->Prop) (L:List Int) (Z:World):Prop where
 b:Below w.heap.size w Z
 f:Keep fp w3 Z
 o:∃v,Boxed Z ob 24 v∧Z.ownsRow (w3.heap.size+2) 3 1 v L.length (L.map (Value.int .i64))∧∀k,v.ownBlock=some k->¬S k∧k≠ob∧k≠w3.heap.size∧k≠w3.heap.size+1
 z:w3.heap.size+2<=Z.heap.size
theorem own_keep2{W W':World}{base:Nat}{T:TypeId}{k n:Nat}{v:Value}{xs:List Value}(h:W.ownsRow base T k v n xs){K:Nat->Prop}(hk:Keep K W W')(hK:∀g,v.ownBlock=some g->K g):W'.ownsRow base T k v n xs:=by
 refine⟨h.1,?_⟩
 rcases h.2 with hn|⟨g,cap,cur,rfl,hbg,hgg,rest⟩
 ·exact .inl hn
 ·exact .inr ⟨g,cap,cur,rfl,hbg,(hk.block g (Array.getElem?_eq_some_iff.1 hgg).1 (hK g rfl)).trans hgg,rest⟩
theorem MissI.keep{w w3:World}{ob:Nat}{fp S S':Nat->Prop}{L:List Int}{A B:World}(h:MissI w w3 ob fp S L A)(h1:∀k,S k->S' k)(h2:∀k,S' k->S k∨A.heap.size<=k)(h3:∀k,S' k->w3.heap.size+2<=k)
 (hob:ob<w3.heap.size)(hfp:∀k,fp k->k<w3.heap.size)(hw:w.heap.size<=w3.heap.size)(hk:Keep (fun k=>k≠w3.heap.size∧k≠w3.heap.size+1∧¬S' k) A B):MissI w w3 ob fp S' L B where
 b:=by
  have hz:=h.z
  exact hk.below h.b (Nat.le_trans hw (by omega)) (fun k hlt=>⟨by omega,by omega,fun hs=>by have:=h3 k hs;omega⟩)
 f:=h.f.trans (hk.mono fun k hlt=>by have:=hfp k hlt;exact⟨by omega,by omega,fun hs=>by have:=h3 k hs;omega⟩)
 o:=by
  obtain⟨v,hv,ho,hg⟩:=h.o
  have hg':∀k,v.ownBlock=some k->¬S' k∧k≠ob∧k≠w3.heap.size∧k≠w3.heap.size+1:=fun k hk'=>by
   obtain⟨g1,g2⟩:=hg k hk'
   refine⟨fun hs=>?_,g2⟩
   rcases h2 k hs with g|g
   ·exact g1 g
   ·have:=(ho.lt k hk').2;omega
  exact⟨v,(hk.block ob hv.lt ⟨by omega,by omega,fun hs=>by have:=h3 _ hs;omega⟩).trans hv,own_keep2 ho hk (fun g hgk=>⟨(hg' g hgk).2.2.1,(hg' g hgk).2.2.2,(hg' g hgk).1⟩),hg'⟩
 z:=Nat.le_trans h.z hk.size
end
section
open Go.RowKit
theorem OptV.slice{W:World}{base:Nat}{S:Nat->Prop}{o:Option (List Int)}{u:Value}(h:OptV W base S o u):∃a c,u=.slice a (o.getD []).length c∧(o.getD []).length<=maxLen∧zAI W a (o.getD [])∧(a=none↔o=none):=by
 rcases h with⟨rfl,rfl⟩|⟨x,b,c,rfl,rfl,_,_,h,_,h2⟩
 ·exact⟨none,0,rfl,by simp,fun j hj=>by simp at hj,by simp⟩
 ·exact⟨_,c,rfl,h2,h.ints,by simp⟩
def zLH(W:World)(base:Nat)(S:Nat->Prop)(v:Value)(os:List (Option (List Int))):Prop:=
 ∃vs,W.ownsRow base 24 1 v os.length vs∧(∀k,v.ownBlock=some k->S k)∧∀j (hj:j<os.length),∃u,vs[j]? =some u∧OptV W base S os[j] u
theorem zLH.nil(W:World)(base:Nat)(S:Nat->Prop):zLH W base S (.slice none 0 0) []:=
 ⟨[],World.ownsRow_nil _ _ _ _,fun k hk=>by simp[Value.ownBlock]at hk,fun j hj=>by simp at hj⟩
theorem zLH.slice{W:World}{base:Nat}{S:Nat->Prop}{v:Value}{T:List (Option (List Int))}(h:zLH W base S v T):∃a c,v=.slice a T.length c:=by
 obtain⟨xs,ho,_⟩:=h;exact zAD ho
theorem zLH.keep{W W':World}{base:Nat}{S S' K:Nat->Prop}{v:Value}{ls:List (Option (List Int))}(h:zLH W base S v ls)(hk:Keep K W W')(hS:∀b,S b->b<W.heap.size->K b∧S' b):zLH W' base S' v ls:=by
 obtain⟨vs,ho,hg,he⟩:=h
 refine⟨vs,⟨ho.1,?_⟩,fun k hk'=>?_,fun j hj=>?_⟩
 ·rcases ho.2 with hn|⟨g,cap,cur,rfl,hb,hgg,rest⟩
  ·exact .inl hn
  ·have hlt:=(Array.getElem?_eq_some_iff.1 hgg).1
   exact .inr ⟨g,cap,cur,rfl,hb,(hk.block g hlt (hS g (hg g rfl) hlt).1).trans hgg,rest⟩
 ·rcases ho.2 with⟨rfl,_⟩|⟨g,cap,cur,rfl,hb,hgg,rest⟩
  ·simp[Value.ownBlock]at hk'
  ·obtain rfl:g=k:=by simpa[Value.ownBlock]using hk'
   exact(hS g (hg g rfl) (Array.getElem?_eq_some_iff.1 hgg).1).2
 ·obtain⟨u,hu,hel⟩:=he j hj
  exact⟨u,hu,hel.keep hk (fun b _ hb hs=>hS b hs hb)⟩
theorem zLH.below{W W':World}{base:Nat}{S:Nat->Prop}{v:Value}{ls:List (Option (List Int))}(h:zLH W base S v ls)(hb:Below W.heap.size W W'):zLH W' base S v ls:=
 h.keep (Keep.of_below hb:Keep (fun _=>True) _ _) (fun _ h _=>⟨trivial,h⟩)
theorem OptV.grown{W w1 w2:World}{base n:Nat}{S:Nat->Prop}{v u:Value}{l:Option (List Int)}{vs:List Value}(ho:W.ownsRow base 24 1 v n vs)(h:OptV W base S l u)(hW1:Below W.heap.size W w1)(hg:w1.grownBy w2 v.ownBlock):OptV w2 base S l u:=by
 rcases h with (h|⟨x,b,cap,e,e2,h1,h2,h3,h4⟩)
 ·exact .inl h
 refine .inr ⟨x,b,cap,e,e2,h1,h2,h3.keep ((hg.block b (Nat.lt_of_lt_of_le h3.lt hW1.size) ?_).trans (hW1.block b h3.lt)),h4⟩
 rcases ho.2 with⟨rfl,_⟩|⟨g,cap,cur,rfl,hbg,hgg,_⟩
 ·simp[Value.ownBlock]
 ·intro e
  obtain rfl:b=g:=by simpa[Value.ownBlock]using e
  obtain⟨sp,h3⟩:=h3
  rw[h3]at hgg;cases hgg
theorem zLH.snoc{W w1 w2:World}{base:Nat}{S:Nat->Prop}{v v' u:Value}{ls:List (Option (List Int))}{l:Option (List Int)}{vs:List Value}
 (ho:W.ownsRow base 24 1 v ls.length vs)(he:∀j (hj:j<ls.length),∃u,vs[j]? =some u∧OptV W base S ls[j] u)(hu:OptV W base S l u)
 (hW1:Below W.heap.size W w1)(hg:w1.grownBy w2 v.ownBlock)(ho':w2.ownsRow base 24 1 v' (ls.length+1) (vs++[u]))(hS':∀k,v'.ownBlock=some k->S k):zLH w2 base S v' (ls++[l]):=by
 have hlen:vs.length=ls.length:=by have:=ho.1;omega
 have hel:∀u l,OptV W base S l u->OptV w2 base S l u:=fun u l h=>h.grown ho hW1 hg
 refine⟨vs++[u],by simpa using ho',hS',fun j hj=>?_⟩
 by_cases e:j<ls.length
 ·obtain⟨u',hu',hel'⟩:=he j e
  refine⟨u',by rw[List.getElem?_append_left (by omega)];exact hu',?_⟩
  rw[List.getElem_append_left e]
  exact hel _ _ hel'
 ·have:j=ls.length:=by simp at hj;omega
  subst this
  refine⟨u,by rw[List.getElem?_append_right (by omega),hlen];simp,?_⟩
  simp only[List.getElem_append_right (Nat.le_refl _),Nat.sub_self,List.getElem_cons_zero]
  exact hel _ _ hu
def OptsAt(W:World)(a:Option Addr)(os:List (Option (List Int))):Prop:=
 ∀j (hj:j<os.length),∃b off ra rn rc,a=some ⟨b,off,none⟩∧b<W.heap.size∧W.cell? ⟨b,off+j,none⟩=some (.slice ra rn rc)∧(os[j].getD []).length=rn∧rn<=maxLen∧zAI W ra (os[j].getD [])∧(ra=none↔os[j]=none)
theorem OptsAt.below{w w':World}{a:Option Addr}{l:List (Option (List Int))}(h:OptsAt w a l)(hb:Below w.heap.size w w'):OptsAt w' a l:=by
 intro j hj
 obtain⟨b,off,ra,n,cap,e,hlt,h0,hn,hm,hi,hnn⟩:=h j hj
 exact⟨b,off,ra,n,cap,e,Nat.lt_of_lt_of_le hlt hb.size,(hb.cell (p:=⟨b,_,none⟩) hlt).trans h0,hn,hm,hi.below hb,hnn⟩
end
section
open Go.RowKit
theorem light_c(w:World)(a:Option Addr)(n cap:Nat)(M:Mask)(hn:M.length=n)(hm:n<=maxLen)(H:zAN w a M):
 Calls Tryz.prog 16 #[.slice a n cap] w fun e w'=>SomeB e∧w=w':=by
 have HN:=hid hn
 have HH:=hid H
 clear hn H
 unfold maxLen at hm
 go_enter Tryz.func16,Tryz.ntmps16
 go_wp2
 go_loop [3,8] (fun s i=>∃k:Nat,k<=n∧i=.int .i64 k∧∃z:Int,s=.int .i64 z) (fun _ i=>n-(intOf i).toNat)
 case atStart=>exact⟨0,Nat.zero_le _,rfl,_,rfl⟩
 case round=>
  obtain⟨k,hk,rfl,z,rfl⟩:=hrel
  by_cases hlt:k<n
  ·have hkl:k<M.length:=by rw[HN.out];exact hlt
   obtain⟨b,off,ra,rn,rc,rfl,hbs,hq0,hrn,hrm,hri⟩:=HH.out k hkl
   clear hrn hri hkl hrm
   by_cases h7:(7:Int)<(rn:Int)
   ·by_cases h10:(rn:Int)<=10
    ·go_wp2
     go_ret
     exact⟨⟨_,rfl⟩,rfl⟩
    ·go_wp2
     go_round
     case rel=>exact⟨k+1,by omega,by go_num,_,rfl⟩
     case measure=>simp[intOf];omega
   ·go_wp2
    go_round
    case rel=>exact⟨k+1,by omega,by go_num,_,rfl⟩
    case measure=>simp[intOf];omega
  ·go_wp2
   go_ret
   exact⟨⟨_,rfl⟩,rfl⟩
end
section
open Go.RowKit
theorem named_of{W:Nat}{l:List Int}(h:zCL W l):zDA W l=0:=by
 have h1:ascB l=true:=by
  unfold ascB
  rw[decide_eq_true_eq]
  intro i hi
  rw[List.getElem?_eq_getElem (by omega),List.getElem?_eq_getElem (by omega)]
  exact List.pairwise_iff_getElem.1 h.1 i (i+1) (by omega) (by omega) (by omega)
 unfold zDA
 rw[if_pos h1,if_pos]
 rw[List.all_eq_true]
 intro p hp
 have:=h.2 p hp
 unfold inB;simp;omega
theorem pix_of{M:Mask}{S:List Int}(hM:okM M=true)(h:zCL (zAC M) S):pixE M S=0:=by unfold pixE;rw[if_pos hM,named_of h]
theorem zPX{M:Mask}{y S:List Int}(hM:okM M=true)(hy:y.length=M.length)(hmil:milB y=true)(h:zCL (zAC M) S):zAU M y S=0:=by
 unfold zAU;rw[if_pos hM,if_pos hy,if_pos hmil,pix_of hM h]
end
section
theorem zPK{M:Mask}{y:List Int}(hM:okM M=true)(hy:y.length=M.length)(hmil:milB y=true){f:FitT}:f∈zBM M y 10↔∃S,zCL (zAC M) S∧fitF M y S=some f:=by
 obtain⟨hO,hm1,_,hc1,hc10⟩:=zDJ hM
 have hmil':∀v∈y,-1000000<=v∧v<=1000000:=fun v hv=>by have:=zHG hmil v hv;omega
 unfold zBM zBX
 rw[List.mem_flatMap]
 constructor
 ·rintro⟨j,_,hj⟩
  obtain⟨S,hS,hf⟩:=List.mem_filterMap.1 hj
  exact⟨S,comb_ok hS,hf⟩
 ·rintro⟨S,hS,hf⟩
  obtain⟨_,h1,_⟩:=zJC hf
  have hsv:zCA M S y=zAY (zAK (zAS M S) y) S.length:=by unfold zCA;rw[if_pos (zPX hM hy hmil hS)]
  rw[hsv]at h1
  obtain⟨hr,_⟩:=solve_to (hO.cols S) (by rw[zBK];exact hy) hmil' h1
  have hrk:=rank_le (hO.cols S)
  rw[hr,zBK]at hrk
  have hW:=set_le hS
  refine⟨S.length,List.mem_range.2 (by omega),List.mem_filterMap.2 ⟨S,zJH (zAC M) 0 S hS.1 (fun y hy=>by have:=hS.2 y hy;omega),hf⟩⟩
theorem sum_supp{n:Nat}{k:Nat->Int}(r:Nat->Int):sm (fun i=>zFT (zBB n k) r i*vec ((zBB n k).map fun j=>k j.toNat) i) (zBB n k).length=sm (fun c=>r c*k c) n:=by
 have hS:=zDT n k
 rw[<- zHL hS r _ (Nat.le_refl _)]
 unfold dotS
 refine zAL fun c hc=>?_
 rw[zHU hS (fun j hj hm=>?_) hc]
 rcases Classical.em (k j=0)with c|c
 ·exact c
 ·exact absurd (zBY.2 ⟨hj,c⟩) hm
theorem nrm_supp{n:Nat}{k:Nat->Int}:nrmI (vec ((zBB n k).map fun j=>k j.toNat)) (zBB n k).length=nrmI k n:=by
 have h:=sum_supp (n:=n) (k:=k) (fun c=>sgnI (k c))
 have e1:sm (fun c=>sgnI (k c)*k c) n=nrmI k n:=zAL fun c _=>zIH _
 rw[e1]at h
 rw[<- h]
 refine zAL fun i hi=>?_
 have e2:vec ((zBB n k).map fun j=>k j.toNat) i=k ((zBB n k)[i]).toNat:=by unfold vec;rw[List.getElem?_map,List.getElem?_eq_getElem hi];rfl
 have e3:zFT (zBB n k) (fun c=>sgnI (k c)) i=sgnI (k ((zBB n k)[i]).toNat):=by unfold zFT;rw[List.getElem?_eq_getElem hi]
 rw[e2,e3,zIH]
theorem fit_of_sol{M:Mask}{y:List Int}(hM:okM M=true)(hy:y.length=M.length)(hmil:milB y=true){k:Nat->Int}{E:Int}(hk:SolM M (zAC M) y k E)(hr:zFI (zAS M (zBB (zAC M) k)) (zBB (zAC M) k).length=(zBB (zAC M) k).length):
 ∃f,f∈zBM M y 10∧f.1=zBB (zAC M) k∧f.2.length=f.1.length∧(∀i,i<f.1.length->(zAB f.2 i).1*E=k ((f.1[i]?.getD 0).toNat)*(zAB f.2 i).2)∧(∀i,0<(zAB f.2 i).2)∧(nrmQ f.2).1*E=(nrmQ f.2).2*nrmI k (zAC M)∧0<(nrmQ f.2).2:=by
 obtain⟨hO,hm1,_,hc1,hc10⟩:=zDJ hM
 have hmil':∀v∈y,-1000000<=v∧v<=1000000:=fun v hv=>by have:=zHG hmil v hv;omega
 have hS:=zDT (zAC M) k
 have hy':y.length=(zAS M (zBB (zAC M) k)).length:=by rw[zBK];exact hy
 have hsys:∀q,q<(zAS M (zBB (zAC M) k)).length->sm (fun i=>rowv (zAS M (zBB (zAC M) k)) q i*vec ((zBB (zAC M) k).map fun j=>k j.toNat) i) (zBB (zAC M) k).length=vec y q*E:=by
  intro q hq
  rw[zBK]at hq
  rw[zHN,sum_supp,hk.2 q hq]
 obtain⟨k1,k2,k3⟩:=solve_of (hO.cols _) hy' hmil' hr (show E≠0 by have:=hk.1;omega) hsys
 obtain⟨_,_,_,_,_,_,_,hpos,_,_⟩:=zGP (hO.cols _) hy' hmil' k1
 have hsv:zCA M (zBB (zAC M) k) y=zAY (zAK (zAS M (zBB (zAC M) k)) y) (zBB (zAC M) k).length:=by unfold zCA;rw[if_pos (zPX hM hy hmil hS)]
 have hvk:∀i (hi:i<(zBB (zAC M) k).length),vec ((zBB (zAC M) k).map fun j=>k j.toNat) i=k ((zBB (zAC M) k)[i]).toNat:=fun i hi=>by unfold vec;rw[List.getElem?_map,List.getElem?_eq_getElem hi];rfl
 obtain⟨P,hP⟩:=exq (zAY (zAK (zAS M (zBB (zAC M) k)) y) (zBB (zAC M) k).length)
 rw[<- hP]at k1 k2 k3 hpos hsv
 have hfit:fitF M y (zBB (zAC M) k)=some (zBB (zAC M) k,P.1):=by
  unfold fitF
  rw[hsv,if_pos]
  refine⟨k1,List.all_eq_true.2 fun r hr=>?_⟩
  obtain⟨i,hi,rfl⟩:=List.mem_iff_getElem.1 hr
  have hi':i<(zBB (zAC M) k).length:=by omega
  obtain⟨c1,c2,_⟩:=k3 i hi'
  have e1:zAB P.1 i=P.1[i]:=by unfold zAB;rw[List.getElem?_eq_getElem hi];rfl
  rw[e1,hvk i hi']at c1
  rw[e1]at c2
  have h0:k ((zBB (zAC M) k)[i]).toNat≠0:=by
   have hm:=List.getElem_mem hi'
   have hb:=hS.get hi'
   rw[show(zBB (zAC M) k)[i]=((((zBB (zAC M) k)[i]).toNat:Nat):Int)by omega]at hm
   exact(zBY.1 hm).2
  rw[decide_eq_true_eq]
  intro e
  rw[e,Int.zero_mul]at c1
  exact Int.mul_ne_zero h0 (by omega) c1.symm
 have hvals:∀i,i<(zBB (zAC M) k).length->(zAB P.1 i).1*E=vec ((zBB (zAC M) k).map fun j=>k j.toNat) i*(zAB P.1 i).2:=fun i hi=>(k3 i hi).1
 have hn:=zEB hk.1 hpos (zBB (zAC M) k).length hvals
 rw[nrm_supp]at hn
 have hq:nrmQ P.1=zCM P.1 (zBB (zAC M) k).length:=by unfold nrmQ;rw[k2]
 refine⟨(zBB (zAC M) k,P.1),(zPK hM hy hmil).2 ⟨_,hS,hfit⟩,rfl,k2,fun i hi=>?_,hpos,by rw[hq];exact hn,by rw[hq];exact(zEU hpos _).1⟩
 have hi':i<(zBB (zAC M) k).length:=hi
 have:=hvals i hi'
 rw[hvk i hi']at this
 show(zAB P.1 i).1*E=k (((zBB (zAC M) k)[i]?.getD 0).toNat)*(zAB P.1 i).2
 rw[List.getElem?_eq_getElem hi']
 exact this
theorem zOD{M:Mask}{y:List Int}(hM:okM M=true)(hy:y.length=M.length)(hmil:milB y=true){l:Nat->Int}{D:Int}(hl:SolM M (zAC M) y l D):
 ∃f,f∈zBM M y 10∧0<(nrmQ f.2).2∧(nrmQ f.2).1*D<=nrmI l (zAC M)*(nrmQ f.2).2:=by
 obtain⟨hO,_⟩:=zDJ hM
 obtain⟨k,E,h1,h2,_,h4⟩:=lp_norm hO hl
 obtain⟨f,f1,_,_,_,_,f2,f3⟩:=fit_of_sol hM hy hmil h1 h2
 refine⟨f,f1,f3,?_⟩
 have hE:=h1.1
 -- (n*D)*E<=(N*d)*E
 have e:(nrmQ f.2).1*D*E<=nrmI l (zAC M)*(nrmQ f.2).2*E:=by
  have e1:(nrmQ f.2).1*D*E=(nrmQ f.2).2*(nrmI k (zAC M)*D):=by
   have:(nrmQ f.2).1*D*E=((nrmQ f.2).1*E)*D:=by grind
   rw[this,f2];grind
  have e2:nrmI l (zAC M)*(nrmQ f.2).2*E=(nrmQ f.2).2*(nrmI l (zAC M)*E):=by grind
  rw[e1,e2]
  exact Int.mul_le_mul_of_nonneg_left h4 (by omega)
 exact Int.le_of_mul_le_mul_right e hE
theorem zEP{M:Mask}{y:List Int}(hM:okM M=true)(hy:y.length=M.length)(hmil:milB y=true){f:FitT}(hf:f∈zBM M y 10):
 zCL (zAC M) f.1∧f.2.length=f.1.length∧f.2.all zAH=true∧(∀r∈f.2,r.1≠0)∧0<(nrmQ f.2).2∧zAH (zAR (nrmQ f.2).1 (nrmQ f.2).2)=true∧zFI (zAS M f.1) f.1.length=f.1.length∧
  ∃(l:Nat->Int) (D:Int),SolM M (zAC M) y l D∧D<=288∧(∀c,c<zAC M->(c:Int)∉f.1->l c=0)∧(∀i (hi:i<f.1.length),(zAB f.2 i).1*D=l (f.1[i]).toNat*(zAB f.2 i).2)∧(nrmQ f.2).1*D=(nrmQ f.2).2*nrmI l (zAC M):=by
 obtain⟨hO,hm1,_,hc1,hc10⟩:=zDJ hM
 have hmil':∀v∈y,-1000000<=v∧v<=1000000:=fun v hv=>by have:=zHG hmil v hv;omega
 obtain⟨S,hS,hfit⟩:=(zPK hM hy hmil).1 hf
 obtain⟨rfl,h1,h2⟩:=zJC hfit
 have hsv:zCA M S y=zAY (zAK (zAS M S) y) S.length:=by unfold zCA;rw[if_pos (zPX hM hy hmil hS)]
 rw[hsv]at h1 h2⊢
 have hy':y.length=(zAS M S).length:=by rw[zBK];exact hy
 obtain⟨l,D,hD,hD288,k1,_,k3,hpos,hr,hv⟩:=zGP (hO.cols S) hy' hmil' h1
 obtain⟨n1,n2⟩:=solve_norm (hO.cols S) hy' hmil' h1
 have hlen:=zNW h1
 obtain⟨P,hP⟩:=exq ((zAY (zAK (zAS M S) y) S.length).1)
 rw[<- hP]at h2 k1 hpos hv n1 n2 hlen⊢
 have hq:nrmQ P=zCM P S.length:=by unfold nrmQ;rw[hlen]
 -- spread
 have hL:((List.range S.length).map l).length=S.length:=by simp
 have hvL:∀i,i<S.length->vec ((List.range S.length).map l) i=l i:=fun i hi=>by unfold vec;rw[List.getElem?_map,List.getElem?_range hi];rfl
 have hin:∀i (hi:i<S.length),vec (zAX (zAC M) S ((List.range S.length).map l) S.length) (S[i]).toNat=l i:=fun i hi=>by
  rw[zDW hS S.length (Nat.le_refl _) i hi hi]
  exact hvL i hi
 have hsum:∀r:Nat->Int,sm (fun i=>zFT S r i*l i) S.length=sm (fun c=>r c*vec (zAX (zAC M) S ((List.range S.length).map l) S.length) c) (zAC M):=fun r=>by
  have:=zHL (l:=(List.range S.length).map l) hS r S.length (Nat.le_refl _)
  unfold dotS at this
  rw[this]
  exact zAL fun i hi=>by rw[hvL i hi]
 refine⟨hS,hlen,List.all_eq_true.2 fun r hr=>?_,h2,by rw[hq];exact n1,by rw[hq];exact n2,hr,vec (zAX (zAC M) S ((List.range S.length).map l) S.length),D,⟨hD,fun q hq=>?_⟩,hD288,fun c hc hn=>zFP hS hn S.length (Nat.le_refl _),fun i hi=>by rw[hin i hi];exact k1 i hi,?_⟩
 ·obtain⟨i,hi,rfl⟩:=List.mem_iff_getElem.1 hr
  have:=hv i
  unfold zAB at this
  rw[List.getElem?_eq_getElem hi]at this
  exact this
 ·have:=k3.2 q (by rw[zBK];exact hq)
  rw[zHN,hsum]at this
  exact this
 ·rw[hq,zEB hD hpos S.length k1]
  congr 1
  have h:=hsum (fun c=>sgnI (vec (zAX (zAC M) S ((List.range S.length).map l) S.length) c))
  have e1:sm (fun c=>sgnI (vec (zAX (zAC M) S ((List.range S.length).map l) S.length) c)*vec (zAX (zAC M) S ((List.range S.length).map l) S.length) c) (zAC M)=nrmI (vec (zAX (zAC M) S ((List.range S.length).map l) S.length)) (zAC M):=zAL fun c _=>zIH _
  rw[e1]at h
  rw[<- h]
  refine zAL fun i hi=>?_
  have e3:zFT S (fun c=>sgnI (vec (zAX (zAC M) S ((List.range S.length).map l) S.length) c)) i=sgnI (l i):=by
   unfold zFT;rw[List.getElem?_eq_getElem hi]
   simp only[]
   rw[hin i hi]
  rw[e3,zIH]
end
section
def zBG:List Int->List Int->Bool
 | [],[]=>false
 | [],_::_=>true
 |_::_,[]=>false
 |x::a,y::b=>if x=y then zBG a b else decide (x<y)
theorem zNE:∀a,zBG a a=false
 | []=>rfl
 |x::a=>by unfold zBG;rw[if_pos rfl];exact zNE a
theorem zEX:∀a b,a=b∨zBG a b=true∨zBG b a=true
 | [],[]=>.inl rfl
 | [],_::_=>.inr (.inl rfl)
 |_::_,[]=>.inr (.inr rfl)
 |x::a,y::b=>by
  by_cases e:x=y
  ·subst e
   rcases zEX a b with h|h|h
   ·exact .inl (by rw[h])
   ·exact .inr (.inl (by unfold zBG;rw[if_pos rfl];exact h))
   ·exact .inr (.inr (by unfold zBG;rw[if_pos rfl];exact h))
  ·rcases Int.lt_or_gt_of_ne e with h|h
   ·exact .inr (.inl (by unfold zBG;rw[if_neg e];simpa using h))
   ·exact .inr (.inr (by unfold zBG;rw[if_neg (fun h=>e h.symm)];simpa using h))
theorem zGX:∀{a b},zBG a b=true->zBG b a=false
 | [],[],h=>by cases h
 | [],_::_,_=>rfl
 |_::_,[],h=>by cases h
 |x::a,y::b,h=>by
  unfold zBG at h⊢
  by_cases e:x=y
  ·subst e;rw[if_pos rfl]at h⊢;exact zGX h
  ·rw[if_neg e]at h
   rw[if_neg (fun h=>e h.symm)]
   have:x<y:=by simpa using h
   rw[decide_eq_false_iff_not];omega
theorem zEK:∀{a b c},zBG a b=true->zBG b c=true->zBG a c=true
 | [],_,[],_,h=>by rename_i b _;cases b<;>cases h
 | [],_,_::_,_,_=>rfl
 |_::_,[],_,h,_=>by cases h
 |_::_,_::_,[],_,h=>by cases h
 |x::a,y::b,z::c,h1,h2=>by
  unfold zBG at h1 h2⊢
  by_cases e:x=y
  ·subst e
   rw[if_pos rfl]at h1
   by_cases e2:x=z
   ·subst e2;rw[if_pos rfl]at h2⊢;exact zEK h1 h2
   ·rw[if_neg e2]at h2⊢;exact h2
  ·rw[if_neg e]at h1
   have h1':x<y:=by simpa using h1
   by_cases e2:y=z
   ·subst e2;rw[if_neg e];exact h1
   ·rw[if_neg e2]at h2
    have h2':y<z:=by simpa using h2
    rw[if_neg (by omega)];simp;omega
def zBA(f:FitT):Rt:=zAR (nrmQ f.2).1 (nrmQ f.2).2
def cmpF(r s:Rt):Int:=cmpR r.1 r.2 s.1 s.2
def stepC(s:Rt×List FitT)(f:FitT):Rt×List FitT:=
 if s.2=[]∨cmpF (zBA f) s.1<0 then(zBA f,[f])else if cmpF (zBA f) s.1=0 then(s.1,s.2++[f])else s
def zBL(l:List FitT):Rt×List FitT:=l.foldl stepC ((0,0),[])
theorem zJY(l:List FitT)(f:FitT):zBL (l++[f])=stepC (zBL l) f:=by unfold zBL;rw[List.foldl_append];rfl
theorem zLR{r s:Rt}(hr:0<r.2)(hs:0<s.2):cmpF r s=cmpI (r.1*s.2) (s.1*r.2):=by
 unfold cmpF cmpR dF;rw[if_neg (by omega),if_neg (by omega)]
theorem zLS{r s:Rt}(hr:0<r.2)(hs:0<s.2):cmpF r s<0↔r.1*s.2<s.1*r.2:=by
 rw[zLR hr hs];unfold cmpI;split<;>(try split)<;>omega
theorem cmpF_zero{r s:Rt}(hr:0<r.2)(hs:0<s.2):cmpF r s=0↔r.1*s.2=s.1*r.2:=by
 rw[zLR hr hs];unfold cmpI;split<;>(try split)<;>omega
theorem low_eq{r s:Rt}(hr:zAH r=true)(hs:zAH s=true)(h:r.1*s.2=s.1*r.2):r=s:=by
 obtain⟨r1,r2⟩:=r
 obtain⟨s1,s2⟩:=s
 obtain⟨a1,_,_,_,a5⟩:=zAW.1 hr
 obtain⟨b1,_,_,_,b5⟩:=zAW.1 hs
 simp only[]at*
 rw[<- zFB a5,<- zFB b5]
 exact zIK (by omega) (by omega) h
theorem zFR:∀(l:List FitT),(∀f∈l,zAH (zBA f)=true)->(l=[]->zBL l=((0,0),[]))∧(l≠[]->(zBL l).2≠[]∧(∃f∈l,(zBL l).1=zBA f)∧
 (∀f∈l,(zBL l).1.1*(zBA f).2<=(zBA f).1*(zBL l).1.2)∧(zBL l).2=l.filter (fun f=>decide (zBA f=(zBL l).1))):=by
 intro l
 induction hn:l.length generalizing l with
 |zero=>
  intro _
  have:l=[]:=List.length_eq_zero_iff.1 hn
  subst this
  exact⟨fun _=>rfl,fun h=>absurd rfl h⟩
 |succ n ih=>
  intro hv
  obtain⟨m,f,rfl⟩:∃m f,l=m++[f]:=⟨l.dropLast,l.getLast (by intro e;rw[e]at hn;simp at hn),(List.dropLast_concat_getLast _).symm⟩
  have hml:m.length=n:=by simpa using hn
  have hvm:∀g∈m,zAH (zBA g)=true:=fun g hg=>hv g (List.mem_append_left _ hg)
  have hvf:zAH (zBA f)=true:=hv f (by simp)
  have pf:0<(zBA f).2:=by have:=(zAW.1 hvf).1;omega
  obtain⟨i1,i2⟩:=ih m hml hvm
  refine⟨fun h=>by simp at h,fun _=>?_⟩
  rw[zJY]
  by_cases hm:m=[]
  ·subst hm
   have e:stepC (zBL []) f=(zBA f,[f]):=by unfold stepC;rw[if_pos (.inl rfl)]
   rw[List.nil_append,e]
   exact⟨by simp,⟨f,by simp,rfl⟩,fun g hg=>by rw[List.mem_singleton.1 hg];exact Int.le_refl _,by simp⟩
  ·obtain⟨j1,⟨g0,hg0,j2⟩,j3,j4⟩:=i2 hm
   have ps:0<(zBL m).1.2:=by rw[j2];have:=(zAW.1 (hvm g0 hg0)).1;omega
   have vs:zAH (zBL m).1=true:=by rw[j2];exact hvm g0 hg0
   unfold stepC
   by_cases c1:(zBL m).2=[]∨cmpF (zBA f) (zBL m).1<0
   ·rw[if_pos c1]
    have c2:(zBA f).1*(zBL m).1.2<(zBL m).1.1*(zBA f).2:=by
     rcases c1 with c|c
     ·exact absurd c j1
     ·exact(zLS pf ps).1 c
    have hlt:∀g∈m,(zBA f).1*(zBA g).2<(zBA g).1*(zBA f).2:=fun g hg=>by
     have h1:=j3 g hg
     have pg:0<(zBA g).2:=by have:=(zAW.1 (hvm g hg)).1;omega
     have e1:(zBA f).1*(zBL m).1.2*(zBA g).2<(zBL m).1.1*(zBA f).2*(zBA g).2:=Int.mul_lt_mul_of_pos_right c2 pg
     have e2:(zBL m).1.1*(zBA g).2*(zBA f).2<=(zBA g).1*(zBL m).1.2*(zBA f).2:=Int.mul_le_mul_of_nonneg_right h1 (by omega)
     have e3:(zBA f).1*(zBA g).2*(zBL m).1.2<(zBA g).1*(zBA f).2*(zBL m).1.2:=by
      have x1:(zBA f).1*(zBA g).2*(zBL m).1.2=(zBA f).1*(zBL m).1.2*(zBA g).2:=by grind
      have x2:(zBL m).1.1*(zBA f).2*(zBA g).2=(zBL m).1.1*(zBA g).2*(zBA f).2:=by grind
      have x3:(zBA g).1*(zBA f).2*(zBL m).1.2=(zBA g).1*(zBL m).1.2*(zBA f).2:=by grind
      omega
     exact Int.lt_of_mul_lt_mul_right e3 (by omega)
    refine⟨by simp,⟨f,by simp,rfl⟩,fun g hg=>?_,?_⟩
    ·rcases List.mem_append.1 hg with h|h
     ·exact Int.le_of_lt (hlt g h)
     ·rw[List.mem_singleton.1 h];exact Int.le_refl _
    ·rw[List.filter_append]
     have:m.filter (fun g=>decide (zBA g=zBA f))=[]:=by
      rw[List.filter_eq_nil_iff]
      intro g hg
      rw[decide_eq_true_eq]
      intro e
      have:=hlt g hg
      rw[e]at this
      omega
     show [f]=_
     rw[this];simp
   ·rw[if_neg c1]
    have c1':¬cmpF (zBA f) (zBL m).1<0:=fun h=>c1 (.inr h)
    have c3:(zBL m).1.1*(zBA f).2<=(zBA f).1*(zBL m).1.2:=by
     rcases Int.lt_or_le ((zBA f).1*(zBL m).1.2) ((zBL m).1.1*(zBA f).2)with h|h
     ·exact absurd ((zLS pf ps).2 h) c1'
     ·exact h
    have hle:∀g∈m++[f],(zBL m).1.1*(zBA g).2<=(zBA g).1*(zBL m).1.2:=fun g hg=>by
     rcases List.mem_append.1 hg with h|h
     ·exact j3 g h
     ·rw[List.mem_singleton.1 h];exact c3
    by_cases c2:cmpF (zBA f) (zBL m).1=0
    ·rw[if_pos c2]
     have e:zBA f=(zBL m).1:=low_eq hvf vs ((cmpF_zero pf ps).1 c2)
     refine⟨by simp,⟨g0,List.mem_append_left _ hg0,j2⟩,hle,?_⟩
     rw[List.filter_append,<- j4]
     simp[e]
    ·rw[if_neg c2]
     refine⟨j1,⟨g0,List.mem_append_left _ hg0,j2⟩,hle,?_⟩
     rw[List.filter_append,<- j4]
     have:¬zBA f=(zBL m).1:=fun e=>c2 ((cmpF_zero pf ps).2 (by rw[e]))
     simp[this]
def AscF(l:List FitT):Prop:=l.Pairwise (fun f g=>zBG f.1 g.1=true)
theorem asc_uniq{l m:List FitT}(hl:AscF l)(hm:AscF m)(h:l.Perm m):l=m:=
 List.Perm.eq_of_pairwise (fun a b _ _ h1 h2=>by rw[zGX h1]at h2;cases h2) hl hm h
def insC(f:FitT):List FitT->List FitT
 | []=>[f]
 |g::l=>if zBG f.1 g.1=true then f::g::l else g::insC f l
def zIG(l:List FitT):List FitT:=l.foldl (fun o f=>insC f o) []
theorem zIZ(f:FitT):∀l,(insC f l).Perm (f::l)
 | []=>List.Perm.refl _
 |g::l=>by
  unfold insC
  split
  ·exact List.Perm.refl _
  ·exact((zIZ f l).cons g).trans (List.Perm.swap f g l)
theorem insC_asc{f:FitT}:∀{l:List FitT},AscF l->(∀g∈l,g.1≠f.1)->AscF (insC f l)
 | [],_,_=>by unfold insC AscF;simp
 |g::l,h,hn=>by
  unfold AscF at h
  rw[List.pairwise_cons]at h
  unfold insC
  split
  ·rename_i c
   unfold AscF
   rw[List.pairwise_cons]
   refine⟨fun x hx=>?_,List.pairwise_cons.2 h⟩
   rcases List.mem_cons.1 hx with rfl|hx
   ·exact c
   ·exact zEK c (h.1 x hx)
  ·rename_i c
   have ih:=insC_asc (f:=f) h.2 (fun x hx=>hn x (by simp[hx]))
   unfold AscF
   rw[List.pairwise_cons]
   refine⟨fun x hx=>?_,ih⟩
   rcases List.mem_cons.1 ((zIZ f l).mem_iff.1 hx)with rfl|hx
   ·rcases zEX x.1 g.1 with e|e|e
    ·exact absurd e.symm (hn g (by simp))
    ·exact absurd e c
    ·exact e
   ·exact h.1 x hx
theorem zJU:∀{l:List FitT},(l.map (·.1)).Nodup->AscF (zIG l)∧(zIG l).Perm l:=by
 intro l
 induction hn:l.length generalizing l with
 |zero=>
  intro _
  have:l=[]:=List.length_eq_zero_iff.1 hn
  subst this
  exact⟨List.Pairwise.nil,List.Perm.refl _⟩
 |succ n ih=>
  intro hd
  obtain⟨m,f,rfl⟩:∃m f,l=m++[f]:=⟨l.dropLast,l.getLast (by intro e;rw[e]at hn;simp at hn),(List.dropLast_concat_getLast _).symm⟩
  rw[List.map_append,List.nodup_append]at hd
  obtain⟨h1,h2⟩:=ih (by simpa using hn) hd.1
  have e:zIG (m++[f])=insC f (zIG m):=by unfold zIG;rw[List.foldl_append];rfl
  rw[e]
  refine⟨insC_asc h1 fun g hg e=>?_,(zIZ f _).trans ((h2.cons f).trans (List.perm_append_singleton f m).symm)⟩
  have hg':=h2.mem_iff.1 hg
  exact hd.2.2 g.1 (List.mem_map.2 ⟨g,hg',rfl⟩) f.1 (by simp) e
def zKH(M:Mask)(y:List Int):List FitT:=zIG (zBL (zBM M y 10)).2
end
section
theorem sortC_snoc(l:List FitT)(f:FitT):zIG (l++[f])=insC f (zIG l):=by unfold zIG;rw[List.foldl_append];rfl
theorem zJV:∀l:List FitT,(zIG l).Perm l:=by
 intro l
 induction hn:l.length generalizing l with
 |zero=>
  have:l=[]:=List.length_eq_zero_iff.1 hn
  subst this;exact List.Perm.refl _
 |succ n ih=>
  obtain⟨m,f,rfl⟩:∃m f,l=m++[f]:=⟨l.dropLast,l.getLast (by intro e;rw[e]at hn;simp at hn),(List.dropLast_concat_getLast _).symm⟩
  rw[sortC_snoc]
  exact(zIZ f _).trans (((ih m (by simpa using hn)).cons f).trans (List.perm_append_singleton f m).symm)
end
end Go.Proofs.YtlffndehhhpgjaaGreat
