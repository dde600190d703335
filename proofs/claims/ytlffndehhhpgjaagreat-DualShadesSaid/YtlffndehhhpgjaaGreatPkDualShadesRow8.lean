/- Walks and plain laws for DualShadesRow, part 8. -/
import Derived.Maps.OwnIn
import Derived.Lib.AppendZeros
import Derived.Deep.CutRange
import Derived.Test.YtlffndehhhpgjaaGreatPkDualShadesRow7
namespace Go.Proofs.YtlffndehhhpgjaaGreat
set_option linter.unusedVariables false
set_option linter.unusedSimpArgs false
set_option maxRecDepth 100000
set_option maxHeartbeats 4000000
section
open Go.RowKit
attribute [local go_sem] Oper.semAt_some
theorem wide_regionK{P:Program}{ops:Array Oper}(T:Nat->World->Prop)(n:Nat){id:Nat}{a:Act}{w:World}{K:Act->World->Prop}{Q:Exit->Act->World->Prop}(hm:P.follows .mixedOrders=true)
 (h:AnyT P .any ops (Exit.then K (fun _ _ _=>False)) T ops.size (Array.replicate ops.size false) a w.drew):(Code.region id ops true).wpIn Fence.wide n P (Exit.then K Q) a w:=
 wpIn_mono (wide_region T n hm (fun⟨_,_,h⟩=>h) h) (by intro e a w h;cases e<;>first|exact h|exact h.elim)
theorem run_min3{P:Program}(u:Array TypeId)(t:TypeId)(x y z:Int)(w:World):(Builtin.min_ u t #[.int .i64 x,.int .i64 y,.int .i64 z]).run P w=.ok (.int .i64 (min (min x y) z)) w:=by
 have h1:Builtin.min_ u t #[.int .i64 x,.int .i64 y,.int .i64 z]=pure (.int .i64 (min (min x y) z)):=by
  unfold Builtin.min_
  simp only[List.foldlM,Builtin.min2,pure_bind]
  congr 2
  by_cases h:y<x
  ·rw[if_pos h];split<;>omega
  ·rw[if_neg h];split<;>omega
 rw[h1];rfl
structure FitsI (w0:World) (fp:Nat->Prop) (l:Nat) (J:(Nat->Prop)->List FitT->World->Prop) (lo:Nat) (pre:List FitT) (S:Nat->Prop) (hs:List Nat) (X:World):Prop where
 j:J S pre X
 s:∀k,S k->lo<=k
 y:S lo
 c:X.cell? ⟨lo,0,none⟩=some (.func (.yield l) #[] #[])
 f:∀k,fp k->k<lo∧X.heap[k]? =w0.heap[k]?
 z:lo<X.heap.size
 m:∀h∈hs,S h∧X.heap[h]? =some (.deferred (some []))
theorem FitsI.keep{w0:World}{fp:Nat->Prop}{l lo:Nat}{J:(Nat->Prop)->List FitT->World->Prop}{pre:List FitT}{S S':Nat->Prop}{hs:List Nat}{A B:World}
 (hJ:∀S S' s A B,J S s A->(∀k,S k->S' k)->(∀k,S' k->S k∨A.heap.size<=k)->Keep (fun k=>¬S' k) A B->J S' s B)
 (h:FitsI w0 fp l J lo pre S hs A)(h1:∀k,S k->S' k)(h2:∀k,S' k->S k∨A.heap.size<=k){T:Nat->Prop}(hk:Keep T A B)(hT:∀k,k<A.heap.size->¬S' k->T k)(hTl:T lo)(hTm:∀h∈hs,T h):
 FitsI w0 fp l J lo pre S' hs B where
 j:=hJ _ _ _ _ _ h.j h1 h2 ⟨hk.os,hk.tape,hk.output,hk.size,fun i hi hs=>hk.block i hi (hT i hi hs)⟩
 s:=fun k hk'=>by
  rcases h2 k hk' with h3|h3
  ·exact h.s k h3
  ·have:=h.z;omega
 y:=h1 _ h.y
 c:=hk.cell h.c hTl
 f:=fun k hk'=>by
  obtain⟨h3,h4⟩:=h.f k hk'
  refine⟨h3,(hk.block k (Nat.lt_trans h3 h.z) ?_).trans h4⟩
  refine hT k (Nat.lt_trans h3 h.z) fun h5=>?_
  rcases h2 k h5 with h6|h6
  ·have:=h.s k h6;omega
  ·have:=h.z;omega
 z:=Nat.lt_of_lt_of_le h.z hk.size
 m:=fun q hq=>by
  obtain⟨h3,h4⟩:=h.m q hq
  exact⟨h1 _ h3,(hk.block q (Array.getElem?_eq_some_iff.1 h4).1 (hTm q hq)).trans h4⟩
theorem FitsI.step{w0:World}{fp:Nat->Prop}{l lo:Nat}{J J':(Nat->Prop)->List FitT->World->Prop}{pre pre':List FitT}{S:Nat->Prop}{hs:List Nat}{A B C:World}
 (h:FitsI w0 fp l J lo pre S hs A)(hS:∀k,S k->k<A.heap.size)(hb:Below A.heap.size A B)(hz:B.heap.size<=C.heap.size)(hk:∀k,fp k∨S k->C.heap[k]? =B.heap[k]?)(hj:J' S pre' C):FitsI w0 fp l J' lo pre' S hs C where
 j:=hj
 s:=h.s
 y:=h.y
 c:=(World.cell?_of_block (a:=⟨lo,0,none⟩) (hk lo (.inr h.y))).trans ((hb.cell (p:=⟨lo,0,none⟩) h.z).trans h.c)
 f:=fun k hk'=>by
  obtain⟨h3,h4⟩:=h.f k hk'
  exact⟨h3,(hk k (.inl hk')).trans ((hb.block k (Nat.lt_trans h3 h.z)).trans h4)⟩
 z:=Nat.lt_of_lt_of_le h.z (Nat.le_trans hb.size hz)
 m:=fun q hq=>by
  obtain⟨h3,h4⟩:=h.m q hq
  exact⟨h3,(hk q (.inr h3)).trans ((hb.block q (hS q h3)).trans h4)⟩
theorem zHE(M:Mask)(y:List Int)(W t:Nat):∀d,zBI M y W t <+: zBI M y W (t+d)
 |0=>List.prefix_refl _
 |d+1=>by
  rw[show t+(d+1)=(t+d)+1 by omega,zCF]
  exact(zHE M y W t d).trans (List.prefix_append _ _)
theorem zLL{M:Mask}{y:List Int}{W t N:Nat}{pre:List (List Int)}(ht:t<N+1)(hp:pre <+: comb W t 0):
 zBI M y W t++pre.filterMap (fitF M y) <+: zBI M y W (N+1):=by
 obtain⟨r,hr⟩:=hp
 have h1:zBI M y W t++pre.filterMap (fitF M y) <+: zBI M y W (t+1):=by
  rw[zCF,<- hr,List.filterMap_append]
  exact⟨r.filterMap (fitF M y),by rw[List.append_assoc]⟩
 obtain⟨d,rfl⟩:∃d,N=t+d:=⟨N-t,by omega⟩
 exact h1.trans (by rw[show t+d+1=t+1+d by omega];exact zHE M y W (t+1) d)
theorem fitsTo_in{M:Mask}{y:List Int}{W t N:Nat}{pre:List (List Int)}{x:List Int}{f:FitT}(ht:t<N+1)(hp:pre++[x] <+: comb W t 0)(hf:fitF M y x=some f):
 (zBI M y W t++pre.filterMap (fitF M y))++[f] <+: zBI M y W (N+1):=by
 have e:(zBI M y W t++pre.filterMap (fitF M y))++[f]=zBI M y W t++(pre++[x]).filterMap (fitF M y):=by
  simp[List.filterMap_append,hf]
 rw[e]
 exact zLL ht hp
theorem FitV.own{lo lo2:Nat}{S:Nat->Prop}{f:FitT}{v:Value}{A B:World}(h:FitV lo (fun _=>False) f v A)(hb:Below A.heap.size A B)(hl:lo2<=lo)(hS:∀q,S q->q<lo):FitV lo2 S f v B:=by
 obtain⟨pa,pn,pc,va,vn,vc,e,h1,h2,h3,h4,h5,h6,h7,h8⟩:=h
 refine⟨pa,pn,pc,va,vn,vc,e,h1,h2,h3,h4,h5.below hb,h6.below hb,fun b o e=>?_,fun b o e=>?_⟩
 ·obtain⟨g1,g2,_,c,z,g4⟩:=h7 b o e
  exact⟨Nat.le_trans hl g1,Nat.lt_of_lt_of_le g2 hb.size,fun h=>by have:=hS b h;omega,c,z,(hb.block b g2).trans g4⟩
 ·obtain⟨g1,g2,_,c,z,g4⟩:=h8 b o e
  exact⟨Nat.le_trans hl g1,Nat.lt_of_lt_of_le g2 hb.size,fun h=>by have:=hS b h;omega,c,z,(hb.block b g2).trans g4⟩
theorem fits_iter(w0:World)(fp:Nat->Prop)(k kb qb:Nat)(a a2:Option Addr)(n cap n2 cap2:Nat)(M:Mask)(y:List Int)(hn:M.length=n)(hn2:y.length=n2)(hm:n<=maxLen)(hm2:n2<=maxLen)(h1:1<=n)(hW:zAB M<=1000)(hk:k<=1000)
 (hfp:∀q,fp q->q<w0.heap.size)(hkb:fp kb)(hqb:fp qb)(hck:w0.cell? ⟨kb,0,none⟩=some (.int .i64 k))(hcq:w0.heap[qb]? =some (.cells #[.slice a n cap,.slice a2 n2 cap2] 216 (0,0)))
 (hR:∀X:World,w0.heap.size<=X.heap.size->(∀q,fp q->X.heap[q]? =w0.heap[q]?)->zAJ X a M∧zAE X a2 y):
 IterS Tryz.prog 254 #[.pointer (some ⟨kb,0,none⟩),.pointer (some ⟨qb,0,none⟩)] FitV (zBT M y k) fp w0:=by
 intro l J Jx W hb hJx hJ hY h0
 have hkW:kb<W.heap.size:=Nat.lt_of_lt_of_le (hfp _ hkb) hb.size
 have hqW:qb<W.heap.size:=Nat.lt_of_lt_of_le (hfp _ hqb) hb.size
 have hFW:∀q,fp q->W.heap[q]? =w0.heap[q]? :=fun q hq=>hb.block q (hfp q hq)
 have HJ:=hid hJ
 have HJx:=hid hJx
 have HY:=hid hY
 have H0:=hid h0
 have HFW:=hid hFW
 have HR:=hid hR
 have HFP:=hid hfp
 have HB:=hid hb
 have HK:=hid (show ∀X:World,(∀q,fp q->X.heap[q]? =w0.heap[q]?)->X.cell? ⟨kb,0,none⟩=some (.int .i64 k)from fun X hX=>(World.cell?_of_block (a:=⟨kb,0,none⟩) (hX kb hkb)).trans hck)
 have HQ:=hid (show ∀X:World,(∀q,fp q->X.heap[q]? =w0.heap[q]?)->X.heap[qb]? =some (.cells #[.slice a n cap,.slice a2 n2 cap2] 216 (0,0))from fun X hX=>(hX qb hqb).trans hcq)
 clear hJ hJx hY h0 hFW hck hcq hR hfp hb hkb hqb
 refine callsIn_of_wp_marks Tryz.func254 rfl trivial ?_ rfl
 simp only[Tryz.ntmps254,List.size_toArray,List.length_cons,List.length_nil,Nat.reduceAdd,Nat.reduceSub,Array.replicate_succ,Array.replicate_zero,List.push_toArray,List.append_toArray,List.nil_append,List.cons_append]
 gi_wp2
 obtain⟨w1,hw1⟩:=exq (W.alloc (.cells #[.func (.yield l) #[] #[]] 233))
 rw[<- hw1]
 have hs1:w1.heap.size=W.heap.size+1:=by rw[hw1];simp
 have hF1:∀q,fp q->w1.heap[q]? =w0.heap[q]? :=fun q hq=>by
  rw[hw1,Below.heap_alloc _ _ _ (Nat.lt_of_lt_of_le (HFP.out q hq) HB.out.size)];exact HFW.out q hq
 have hc1:w1.cell? ⟨W.heap.size,0,none⟩=some (.func (.yield l) #[] #[]):=by rw[hw1,World.cell?_alloc_at _ _ _ _ rfl];rfl
 have HB1:=hid (show Below W.heap.size W w1 by rw[hw1];exact(Below.refl _ _).alloc (Nat.le_refl _) _)
 obtain⟨w2,hw2⟩:=exq (w1.drew)
 have HF1:=hid hF1
 have HC1:=hid hc1
 have HS1:=hid hs1
 clear hs1 hF1 hc1
 refine wide_regionK (fun j w'=>decide (j<9)=true->(∀q,q<W.heap.size+1->w'.heap[q]? =w1.heap[q]?)∧W.heap.size+1<=w'.heap.size∧w'.cell? ⟨kb,0,none⟩=some (.int .i64 k)∧w'.cell? ⟨qb,0,none⟩=some (.slice a n cap)∧w'.cell? ⟨qb,1,none⟩=some (.slice a2 n2 cap2)) 0 (by kernel_rfl) ?_
 rw[<- hw2]
 have hF2:∀q,fp q->w2.heap[q]? =w0.heap[q]? :=fun q hq=>by rw[hw2];exact HF1.out q hq
 have HS:=hid (show ∀X:World,(∀q,q<W.heap.size+1->X.heap[q]? =w1.heap[q]?)->W.heap.size+1<=X.heap.size->(∀q,q<W.heap.size+1->X.heap[q]? =w1.heap[q]?)∧W.heap.size+1<=X.heap.size∧X.cell? ⟨kb,0,none⟩=some (.int .i64 k)∧X.cell? ⟨qb,0,none⟩=some (.slice a n cap)∧X.cell? ⟨qb,1,none⟩=some (.slice a2 n2 cap2)from fun X hX hs=>by
  have hF:∀q,fp q->X.heap[q]? =w0.heap[q]? :=fun q hq=>(hX q (by have:=HFP.out q hq;have:=HB.out.size;omega)).trans (HF1.out q hq)
  have hq:=HQ.out X hF
  exact⟨hX,hs,HK.out X hF,by simp[World.cell?,hq],by simp[World.cell?,hq]⟩)
 have h2:=HS.out w2 (fun q _=>by rw[hw2];rfl) (by rw[hw2];exact Nat.le_of_eq HS1.out.symm)
 refine AnyT.tD (i:=0) (v:=.int .i64 k) rfl rfl (by rintro w' ⟨_,_,q5,q6,q7⟩;go_simp) h2 ?_;go_frame
 refine AnyT.tD (i:=1) (v:=.agg #[.slice a n cap,.slice a2 n2 cap2]) rfl rfl (by rintro w' ⟨_,_,q5,q6,q7⟩;go_simp) h2 ?_;go_frame
 refine AnyT.tD (i:=3) (v:=.pointer (some ⟨qb,0,none⟩)) rfl rfl (by rintro w' q5;go_simp) h2 ?_;go_frame
 refine AnyT.tD (i:=4) (v:=.slice a n cap) rfl rfl (by rintro w' ⟨_,_,q5,q6,q7⟩;go_simp) h2 ?_;go_frame
 refine AnyT.tD (i:=5) (v:=.int .i64 n) rfl rfl (by rintro w' q5;go_simp) h2 ?_;go_frame
 refine AnyT.tD (i:=8) (v:=.int .i64 0) rfl rfl (by rintro w' q5;go_simp) h2 ?_;go_frame
 refine AnyT.nx (i:=2) rfl ?_
 have HPX:=hid (fun(X:World) (h:zAJ X a M)=>qpixels_c X a a2 n cap n2 cap2 M hn h1 h)
 have HR2:=hid (show zAJ w2 a M from(HR.out w2 (Nat.le_trans HB.out.size (Nat.le_trans (Nat.le_succ _) h2.2.1)) hF2).1)
 have hB2:Below W.heap.size W w2:=by rw[hw2];exact HB1.out.drew
 clear hF2 hw2 hw1
 go_wp2_with (go_at_call 255;go_loud (refine(HPX.out w2 HR2.out).mono ?_;rintro e w3 ⟨rfl,hb3⟩;refine Stop.of ?_))
 refine Stop.go ?_
 have h3:=HS.out w3 (fun q hq=>(hb3.block q (Nat.lt_of_lt_of_le hq h2.2.1)).trans (h2.1 q hq)) (Nat.le_trans h2.2.1 hb3.size)
 go_wp2
 refine⟨fun _=>h3,?_⟩
 obtain⟨Wn,hWn⟩:=exq (zAB M)
 rw[<- hWn]at hW⊢
 obtain⟨N,hN⟩:∃N:Nat,N=min (min k Wn) n:=⟨_,rfl⟩
 have HN:=hid (show zBT M y k=zBI M y Wn (N+1)by rw[hN,hWn,<- hn];rfl)
 have HWn:=hid hWn
 have hNc:min (min (k:Int) (Wn:Int)) (n:Int)=(N:Int):=by omega
 have HNC:=hid hNc
 have HN1:=hid (show N<=1000 by omega)
 clear hNc hN hWn
 refine AnyT.tD (i:=6) (v:=.int .i64 N) rfl rfl (by rintro w' hw';go_simp;rw[run_min3,HNC.out];rfl) h3 ?_;go_frame
 have HW9:=hid (show IntKind.i64.wrap ((N:Int)+1)=(N:Int)+1 from IntWalk.i64_in _ (by have:=HN1.out;omega))
 refine AnyT.tD (i:=7) (v:=.int .i64 ((N:Int)+1)) rfl rfl (by rintro w' hw';go_simp;exact HW9.out) h3 ?_;go_frame
 refine⟨by kernel_rfl,?_⟩
 have H3:=hid h3
 have HB3:=hid (zAA hB2 hb3)
 clear h2 h3 hB2 hb3
 gi_wp2
 obtain⟨I,hI⟩:∃I:Act->World->Prop,I=(fun a' X=>∃(u4 u5 u6 u7 u8 u9 u10 u11 u12 u13 u14 u17 u18 u19 u20 u21 u22 u23 u24 u25 u26 u27 u28 u29 u30 u31 u32 u33 u34 u35 u36 u37:Value),∃(t:Nat) (S:Nat->Prop) (hs:List Nat),t<=N+1∧FitsI w0 fp l J W.heap.size (zBI M y Wn t) S hs X∧(∀k,S k->k<X.heap.size)∧hs.Nodup∧
  a'=⟨#[.func (.yield l) #[] #[],.pointer (some ⟨kb,0,none⟩),.pointer (some ⟨qb,0,none⟩),.pointer (some ⟨W.heap.size,0,none⟩),u4,u5,u6,u7,u8,u9,u10,u11,u12,u13,u14,.int .i64 ((N:Int)+1),.int .i64 t,u17,u18,u19,u20,u21,u22,u23,u24,u25,u26,u27,u28,u29,u30,u31,u32,u33,u34,u35,u36,u37],markL hs⟩):=⟨_,rfl⟩
 have HI:=hid hI
 clear hI
 obtain⟨mu,hmu⟩:∃mu:Act->World->Nat,mu=(fun a' _=>N+1-(intOf (a'.tmps.getD 16 undef)).toNat):=⟨_,rfl⟩
 have HMU:=hid hmu
 clear hmu
 refine wpIn_loop I mu ?_ ?_
 ·rw[HI.out]
  refine⟨_,_,_,_,_,_,_,_,_,_,_,_,_,_,_,_,_,_,_,_,_,_,_,_,_,_,_,_,_,_,_,_,0,(fun q=>q=W.heap.size),[],Nat.zero_le _,?_,?_,List.nodup_nil,rfl⟩
  ·refine⟨?_,?_,rfl,?_,?_,?_,?_⟩
   ·exact HJ.out _ _ _ _ _ H0.out (fun _ h=>h.elim) (fun q hq=>.inr (Nat.le_of_eq (Eq.symm hq))) (Keep.of_below HB3.out)
   ·intro q hq;exact Nat.le_of_eq (Eq.symm hq)
   ·exact(World.cell?_of_block (a:=⟨W.heap.size,0,none⟩) (H3.out.1 _ (Nat.lt_succ_self _))).trans HC1.out
   ·intro q hq
    have hql:=Nat.lt_of_lt_of_le (HFP.out q hq) HB.out.size
    exact⟨hql,(H3.out.1 q (Nat.lt_succ_of_lt hql)).trans (HF1.out q hq)⟩
   ·exact H3.out.2.1
   ·intro h hh;cases hh
  ·intro q hq;rw[hq];exact H3.out.2.1
 ·intro a' X hIX
  rw[HI.out]at hIX
  obtain⟨u4,hIX⟩:=hIX;obtain⟨u5,hIX⟩:=hIX;obtain⟨u6,hIX⟩:=hIX;obtain⟨u7,hIX⟩:=hIX;obtain⟨u8,hIX⟩:=hIX;obtain⟨u9,hIX⟩:=hIX;obtain⟨u10,hIX⟩:=hIX;obtain⟨u11,hIX⟩:=hIX;obtain⟨u12,hIX⟩:=hIX;obtain⟨u13,hIX⟩:=hIX;obtain⟨u14,hIX⟩:=hIX;obtain⟨u17,hIX⟩:=hIX;obtain⟨u18,hIX⟩:=hIX;obtain⟨u19,hIX⟩:=hIX;obtain⟨u20,hIX⟩:=hIX;obtain⟨u21,hIX⟩:=hIX;obtain⟨u22,hIX⟩:=hIX;obtain⟨u23,hIX⟩:=hIX;obtain⟨u24,hIX⟩:=hIX;obtain⟨u25,hIX⟩:=hIX;obtain⟨u26,hIX⟩:=hIX;obtain⟨u27,hIX⟩:=hIX;obtain⟨u28,hIX⟩:=hIX;obtain⟨u29,hIX⟩:=hIX;obtain⟨u30,hIX⟩:=hIX;obtain⟨u31,hIX⟩:=hIX;obtain⟨u32,hIX⟩:=hIX;obtain⟨u33,hIX⟩:=hIX;obtain⟨u34,hIX⟩:=hIX;obtain⟨u35,hIX⟩:=hIX;obtain⟨u36,hIX⟩:=hIX;obtain⟨u37,hIX⟩:=hIX
  obtain⟨t,S,hs,ht,hX,hSX,hnd,rfl⟩:=hIX
  have HX:=hid hX
  have HSX:=hid hSX
  have HND:=hid hnd
  by_cases hlt:t<N+1
  ·have hlt':(t:Int)<(N:Int)+1:=by omega
   have hXF:∀q,fp q->X.heap[q]? =w0.heap[q]? :=fun q hq=>(hX.f q hq).2
   have hXz:W.heap.size<X.heap.size:=hX.z
   have hq0:X.cell? ⟨qb,0,none⟩=some (.slice a n cap):=by have hq:=HQ.out X hXF;simp[World.cell?,hq]
   have hq1:X.cell? ⟨qb,1,none⟩=some (.slice a2 n2 cap2):=by have hq:=HQ.out X hXF;simp[World.cell?,hq]
   have HPQ:=hid (HPX.out X (HR.out X (Nat.le_trans HB.out.size (Nat.le_of_lt hXz)) hXF).1)
   clear hX hSX hnd hXF
   gi_wp2_with (refine⟨trivial,rfl,?_⟩;gi_at_call 255;refine(callsIn_wide.2 HPQ.out).mono ?_;rintro e Y ⟨rfl,hbY⟩;refine Stop.of ?_)
   refine Stop.go ?_
   rw[<- HWn.out]
   gi_wp2_with (refine⟨trivial,rfl,?_⟩;gi_at_call 178;refine(callsIn_wide.2 (sets_c _ _ _)).mono ?_;rintro e w' ⟨rfl,rfl⟩;refine Stop.of ?_)
   refine Stop.go ?_
   obtain⟨wL,hwL⟩:=exq ((Y.alloc (.cells #[.int .i64 Wn] 3)).alloc (.cells #[.int .i64 t] 3))
   have hsz:wL.heap.size=Y.heap.size+2:=by rw[hwL];simp
   have hbL:Below Y.heap.size Y wL:=by rw[hwL];exact((Below.refl _ Y).alloc (Nat.le_refl _) _).alloc (by simp) _
   have hZ0:Boxed wL Y.heap.size 3 (.int .i64 Wn):=by rw[hwL];exact(Boxed.new Y 3 (.int .i64 (Wn:Int))).alloc _
   have hZ1:Boxed wL (Y.heap.size+1) 3 (.int .i64 (t:Int)):=by
    rw[hwL]
    have h1:=Boxed.new (Y.alloc (.cells #[.int .i64 (Wn:Int)] 3)) 3 (.int .i64 (t:Int))
    rwa [World.size_alloc]at h1
   have hF0:=hZ1.cell
   have hF1:=hZ0.cell
   rw[<- hwL]
   have hbXL:=zAA hbY hbL
   have HBXL:=hid hbXL
   have HSZ:=hid hsz
   have hXY:=hbY.size
   have HXY:=hid hXY
   clear hwL hq0 hq1 hZ0 hZ1 hbXL hbY
   have ht1k:t<=1000:=by have:=HN1.out;omega
   gi_wp2
   obtain⟨T,hT⟩:∃T:(Nat->Prop)->Nat->Prop,T=fun Sr q=>S q∨q=Y.heap.size∨q=Y.heap.size+1∨q=wL.heap.size∨q=wL.heap.size+1∨Sr q:=⟨_,rfl⟩
   refine range_s (gf:=222) (lb:=#[.pointer (some ⟨Y.heap.size+1,0,none⟩),.pointer (some ⟨Y.heap.size,0,none⟩)]) (xs:=comb Wn t 0) (fp:=fun k=>k=Y.heap.size+1∨k=Y.heap.size) (V:=SetV) rfl (enters_of Tryz.func222 (by kernel_rfl) rfl)
    (iter_setsS wL Wn t (Y.heap.size+1) Y.heap.size hW ht1k (by omega) (by omega) hF0 hF1) (Below.refl _ _) (by intro k hk;omega)
    (fun Sr pre Z=>FitsI w0 fp l J W.heap.size (zBI M y Wn t++pre.filterMap (fitF M y)) (T Sr) hs Z)
    (fun Sr c pre Z=>c=.ret∧FitsI w0 fp l Jx W.heap.size (zBI M y Wn t++pre.filterMap (fitF M y)) (T Sr) hs Z) ?hI ?hIx ?hV ?h0 (fun v a' Z=>a'={tmps:=#[.func (.yield l) #[] #[],.pointer (some ⟨kb,0,none⟩),.pointer (some ⟨qb,0,none⟩),.pointer (some ⟨W.heap.size,0,none⟩),.int .i64 t,v,u6,u7,u8,u9,u10,u11,u12,u13,u14,.int .i64 ((N:Int)+1),.int .i64 t,.bool true,.int .i64 t,.agg #[.slice a n cap,.slice a2 n2 cap2],.int .i64 Wn,.int .i64 t,.func (.func 222) #[] #[.pointer (some ⟨Y.heap.size+1,0,none⟩),.pointer (some ⟨Y.heap.size,0,none⟩)],v,u24,u25,u26,u27,u28,u29,u30,u31,u32,u33,u34,u35,u36,u37],defers:=[]}) ?hAx ?hassign ?hbody ?hdone ?hstop
   case hI=>
    intro Sr Sr' s A B hIA h1 h2 h3 h4 hk
    refine hIA.keep HJ.out ?_ ?_ hk ?_ ?_ ?_
    ·rw[hT];rintro q (h|h|h|h|h|h)<;>simp[h,h1]
    ·rw[hT];rintro q (h|h|h|h|h|h)
     ·exact .inl (.inl h)
     ·exact .inl (.inr (.inl h))
     ·exact .inl (.inr (.inr (.inl h)))
     ·exact .inl (.inr (.inr (.inr (.inl h))))
     ·exact .inl (.inr (.inr (.inr (.inr (.inl h)))))
     ·rcases h2 q h with h|h
      ·exact .inl (.inr (.inr (.inr (.inr (.inr h)))))
      ·exact .inr h
    ·rw[hT];intro q _ hq;simp only[not_or]at hq;exact⟨hq.2.2.2.1,hq.2.2.2.2.1,hq.2.2.2.2.2⟩
    ·exact⟨by omega,by omega,fun h=>by have:=h3 _ h;omega⟩
    ·intro q hq
     have:=HSX.out q (HX.out.m q hq).1
     exact⟨by omega,by omega,fun h=>by have:=h3 _ h;omega⟩
   case hIx=>
    rintro Sr Sr' c s A B ⟨hc,hIA⟩ h1 h2 h3 h4 hk
    refine⟨hc,hIA.keep HJx.out ?_ ?_ hk ?_ ?_ ?_⟩
    ·rw[hT];rintro q (h|h|h|h|h|h)<;>simp[h,h1]
    ·rw[hT];rintro q (h|h|h|h|h|h)
     ·exact .inl (.inl h)
     ·exact .inl (.inr (.inl h))
     ·exact .inl (.inr (.inr (.inl h)))
     ·exact .inl (.inr (.inr (.inr (.inl h))))
     ·exact .inl (.inr (.inr (.inr (.inr (.inl h)))))
     ·rcases h2 q h with h|h
      ·exact .inl (.inr (.inr (.inr (.inr (.inr h)))))
      ·exact .inr h
    ·rw[hT];intro q _ hq;simp only[not_or]at hq;exact⟨hq.2.2.2.1,hq.2.2.2.2.1,hq.2.2.2.2.2⟩
    ·exact⟨by omega,by omega,fun h=>by have:=h3 _ h;omega⟩
    ·intro q hq
     have:=HSX.out q (HX.out.m q hq).1
     exact⟨by omega,by omega,fun h=>by have:=h3 _ h;omega⟩
   case hV=>
    intro Sr x v A B hv hk
    exact hv.keep hk (fun k hk=>⟨by omega,by omega⟩)
   case h0=>
    intro Z hk hZ
    rw[List.filterMap_nil,List.append_nil]
    refine HX.out.keep HJ.out ?_ ?_ ((Keep.of_below HBXL.out).trans hk) ?_ ?_ ?_
    ·rw[hT];intro q h;simp[h]
    ·rw[hT];rintro q (h|h|h|h|h|h)
     ·exact .inl h
     ·exact .inr (by omega)
     ·exact .inr (by omega)
     ·exact .inr (by omega)
     ·exact .inr (by omega)
     ·exact h.elim
    ·intro q hq _;omega
    ·omega
    ·intro q hq
     have:=HSX.out q (HX.out.m q hq).1
     omega
   case hAx=>
    intro v a' A B h _;exact h
   case hassign=>
    intro l' Sr x v Z K hZ hv hK
    gi_wp2
    exact hK _ _ (Below.refl _ _) rfl
   case hbody=>
    rintro l' Sr pre x v _ Z hpre hSr hIZ hv rfl hZ _ _
    obtain⟨xa,xc,rfl,hxi,hxb⟩:=hv
    have hxm:x∈comb Wn t 0:=hpre.subset (by simp)
    have hxl:x.length=t:=zCP _ _ _ x hxm
    have hZF:∀q,fp q->Z.heap[q]? =w0.heap[q]? :=fun q hq=>(hIZ.f q hq).2
    have hZz:W.heap.size<Z.heap.size:=hIZ.z
    have hzq0:Z.cell? ⟨qb,0,none⟩=some (.slice a n cap):=by have hq:=HQ.out Z hZF;simp[World.cell?,hq]
    have hzq1:Z.cell? ⟨qb,1,none⟩=some (.slice a2 n2 cap2):=by have hq:=HQ.out Z hZF;simp[World.cell?,hq]
    have hzy:Z.cell? ⟨W.heap.size,0,none⟩=some (.func (.yield l) #[] #[]):=hIZ.c
    obtain⟨hRZ,hIY⟩:=HR.out Z (Nat.le_trans HB.out.size (Nat.le_of_lt hZz)) hZF
    have HFIT:=hid (fit_c Z a a2 xa n cap n2 cap2 x.length xc M y x hn hn2 rfl hm hm2 (by rw[hxl];exact ht1k) hRZ hIY hxi)
    have HIZ:=hid hIZ
    have HT:=hid hT
    have HSR:=hid hSr
    have HPRE:=hid hpre
    have hYs:=hbL.size
    have HTB:=hid (show ∀q,T Sr q->q<Z.heap.size by
     rw[hT];rintro q (h|h|h|h|h|h)
     ·have:=HSX.out q h;omega
     ·omega
     ·omega
     ·omega
     ·omega
     ·exact(hSr q h).2)
    clear hYs
    have hqZ:qb<Z.heap.size:=World.block_lt_of_cell? Z ⟨qb,0,none⟩ hzq0
    clear hRZ hIY hIZ hT hSr hpre hxm hxl hZF hxi hxb hF0 hF1
    cases hF:fitF M y x with
    |none=>
     rw[hF]at HFIT
     have HF:=hid hF
     clear hF
     gi_wp2_with (refine⟨trivial,rfl,?_⟩;gi_at_call 256;refine(CallsIn.inRound l' (callsIn_wide.2 HFIT.out)).mono ?_;rintro e Z2 ⟨⟨_,rfl⟩|⟨f,fv,hso,_⟩,hb2⟩;rotate_left;cases hso;refine Stop.of ?_)
     refine Stop.go ?_
     gi_wp2
     refine⟨fun _ h=>(by cases h),?_⟩
     gi_wp2
     have hbF:=zAA hb2 ((Below.refl Z2.heap.size Z2).alloc (Nat.le_refl _) (.cells #[.slice none 0 0,.slice none 0 0] 73))
     refine⟨hbF.size,fun q hq=>hbF.block q (HTB.out q (by rw[HT.out];exact .inr (by rcases hq with (hq|hq)|hq|hq|hq<;>simp[hq]))),?_⟩
     show FitsI w0 fp l J W.heap.size (zBI M y Wn t++(pre++[x]).filterMap (fitF M y)) (T Sr) hs _
     rw[List.filterMap_append,List.filterMap_cons_none HF.out,List.filterMap_nil,List.append_nil]
     exact HIZ.out.keep HJ.out (fun _ h=>h) (fun _ h=>.inl h) (Keep.of_below hbF:Keep (fun _=>True) Z _) (fun _ _ _=>trivial) trivial (fun _ _=>trivial)
    |some f=>
     rw[hF]at HFIT
     have HF:=hid hF
     clear hF
     gi_wp2_with (refine⟨trivial,rfl,?_⟩;gi_at_call 256;refine(CallsIn.inRound l' (callsIn_wide.2 HFIT.out)).mono ?_;rintro e Z2 ⟨⟨hno,_⟩|⟨f',fv,hso,rfl,hfv⟩,hb2⟩;cases hno;refine Stop.of ?_)
     refine Stop.go ?_
     obtain rfl:f=f':=by cases hso;rfl
     clear hso
     have HFV:=hid hfv
     obtain⟨pa,pn,pc,va,vn,vc,rfl,_,_,_,_,_,_,_,_⟩:=hfv
     have hy2:Z2.cell? ⟨W.heap.size,0,none⟩=some (.func (.yield l) #[] #[]):=(hb2.cell (p:=⟨W.heap.size,0,none⟩) hZz).trans hzy
     have hyl:W.heap.size<Z2.heap.size:=Nat.lt_of_lt_of_le hZz hb2.size
     have hb3:=zAA hb2 ((Below.refl Z2.heap.size Z2).alloc (Nat.le_refl _) (.cells #[.slice pa pn pc,.slice va vn vc] 73))
     have hyk:=HY.out (T Sr) (zBI M y Wn t++pre.filterMap (fitF M y)) f (.agg #[.slice pa pn pc,.slice va vn vc]) (Z2.alloc (.cells #[.slice pa pn pc,.slice va vn vc] 73))
      (by rw[HN.out];exact fitsTo_in hlt HPRE.out HF.out) (fun q hq=>⟨HIZ.out.s q hq,Nat.lt_of_lt_of_le (HTB.out q hq) hb3.size⟩) (Nat.le_trans (Nat.le_of_lt hZz) hb3.size)
      (HJ.out _ _ _ _ _ HIZ.out.j (fun _ h=>h) (fun _ h=>.inl h) (Keep.of_below hb3)) (HFV.out.own ((Below.refl _ _).alloc (Nat.le_refl _) _) (Nat.le_of_lt hZz) HTB.out)
     have HB3':=hid hb3
     clear hb2 hb3
     obtain⟨fn,tmps,assign,body,hy,hR'⟩:=hyk
     gi_wp2
     refine⟨rfl,hR'.mono ?_⟩
     clear hR' hy
     rintro e W3 ⟨⟨hs3,hk3⟩,⟨rfl,hJ3⟩|⟨rfl,hJ3⟩⟩
     ·gi_wp2
      refine⟨Nat.le_trans HB3'.out.size hs3,fun q hq=>?_,?_⟩
      ·have hq':T Sr q:=by rw[HT.out];exact .inr (by rcases hq with (hq|hq)|hq|hq|hq<;>simp[hq])
       exact(hk3 q (.inr hq')).trans (HB3'.out.block q (HTB.out q hq'))
      ·show FitsI w0 fp l J W.heap.size (zBI M y Wn t++(pre++[x]).filterMap (fitF M y)) (T Sr) hs _
       rw[List.filterMap_append,List.filterMap_cons_some HF.out,List.filterMap_nil,<- List.append_assoc]
       exact HIZ.out.step HTB.out HB3'.out hs3 hk3 hJ3
     ·gi_wp2
      refine⟨Nat.le_trans HB3'.out.size hs3,fun q hq=>?_,rfl,?_⟩
      ·have hq':T Sr q:=by rw[HT.out];exact .inr (by rcases hq with (hq|hq)|hq|hq|hq<;>simp[hq])
       exact(hk3 q (.inr hq')).trans (HB3'.out.block q (HTB.out q hq'))
      ·show FitsI w0 fp l Jx W.heap.size (zBI M y Wn t++(pre++[x]).filterMap (fitF M y)) (T Sr) hs _
       rw[List.filterMap_append,List.filterMap_cons_some HF.out,List.filterMap_nil,<- List.append_assoc]
       exact HIZ.out.step HTB.out HB3'.out hs3 hk3 hJ3
   case hdone=>
    intro Sr Z hZ hSr hIZ hmk
    have HIZ:=hid hIZ
    have HSR:=hid hSr
    have HMK:=hid hmk
    have HT:=hid hT
    have hYs:=hbL.size
    have HTB:=hid (show ∀q,T Sr q->q<Z.heap.size by
     rw[hT];rintro q (h|h|h|h|h|h)
     ·have:=HSX.out q h;omega
     ·omega
     ·omega
     ·omega
     ·omega
     ·exact(hSr q h).2)
    have HNN:=hid (show wL.heap.size∉hs from fun h=>by have:=HSX.out _ (HX.out.m _ h).1;omega)
    clear hIZ hSr hmk hT hF0 hF1 hYs
    gi_wp2
    rw[HI.out,HMU.out]
    refine⟨⟨_,_,_,_,_,_,_,_,_,_,_,_,_,_,_,_,_,_,_,_,_,_,_,_,_,_,_,_,_,_,_,_,t+1,T Sr,wL.heap.size::hs,hlt,?_,HTB.out,List.nodup_cons.2 ⟨HNN.out,HND.out⟩,by first|rfl| (rw[cast1 t];rfl)⟩,?_⟩
    ·rw[zCF]
     refine⟨HIZ.out.j,HIZ.out.s,HIZ.out.y,HIZ.out.c,HIZ.out.f,HIZ.out.z,fun q hq=>?_⟩
     rcases List.mem_cons.1 hq with rfl|hq
     ·exact⟨by rw[HT.out];simp,HMK.out⟩
     ·exact HIZ.out.m q hq
    ·show N+1-(intOf (.int .i64 ((t:Int)+1))).toNat<N+1-(intOf (.int .i64 (t:Int))).toNat
     simp only[intOf];omega
   case hstop=>
    rintro Sr c pre Z hpre hSr ⟨rfl,hIZ⟩ hmk
    have HIZ:=hid hIZ
    have HMK:=hid hmk
    have HT:=hid hT
    have HPRE:=hid hpre
    have HNN:=hid (show wL.heap.size∉hs from fun h=>by have:=HSX.out _ (HX.out.m _ h).1;have:=hbL.size;omega)
    clear hIZ hSr hmk hT hF0 hF1 hpre
    gi_wp2
    refine zDD (wL.heap.size::hs) Z (List.nodup_cons.2 ⟨HNN.out,HND.out⟩) (fun h hh=>?_) fun w' hk=>?_
    ·rcases List.mem_cons.1 hh with rfl|hh
     ·exact HMK.out
     ·exact(HIZ.out.m h hh).2
    ·refine⟨_,results_none rfl _ _ _,⟨_,rfl⟩,.inr ⟨T Sr,_,?_,HJx.out _ _ _ _ _ HIZ.out.j (fun _ h=>h) (fun _ h=>.inl h) (hk.mono fun q hq hh=>?_)⟩⟩
     ·rw[HN.out]
      exact zLL hlt HPRE.out
     ·rcases List.mem_cons.1 hh with rfl|hh
      ·exact hq (by rw[HT.out];simp)
      ·exact hq (HIZ.out.m q hh).1
  ·obtain rfl:t=N+1:=by omega
   clear hX hSX hnd
   gi_wp2
   refine zDD hs X HND.out (fun h hh=>(HX.out.m h hh).2) fun w' hk=>?_
   refine⟨_,results_none rfl _ _ _,⟨_,rfl⟩,.inl ⟨S,fun q hq=>⟨HX.out.s q hq,Nat.lt_of_lt_of_le (HSX.out q hq) hk.size⟩,?_⟩⟩
   rw[HN.out]
   exact HJ.out _ _ _ _ _ HX.out.j (fun _ h=>h) (fun _ h=>.inl h) (hk.mono fun q hq hh=>hq (HX.out.m q hh).1)
end
section
open Go.RowKit
theorem qfits_c(w:World)(a a2:Option Addr)(n cap n2 cap2:Nat)(k:Int):
 Calls Tryz.prog 234 #[.agg #[.slice a n cap,.slice a2 n2 cap2],.int .i64 k] w fun e w'=>
  e=.returned (.func (.func 254) #[] #[.pointer (some ⟨w.heap.size+1,0,none⟩),.pointer (some ⟨w.heap.size,0,none⟩)])∧
  w'=(w.alloc (.cells #[.slice a n cap,.slice a2 n2 cap2] 216)).alloc (.cells #[.int .i64 k] 3):=by
 have hmf:∀(fn:Fn) (first cap:Array Value) (w:World),(Instr.makeFunc fn first cap).run Tryz.prog w=.ok (.func fn first cap) w:=fun _ _ _ _=>rfl
 go_enter Tryz.func234,Tryz.ntmps234
 go_wp2
 go_ret
 exact⟨rfl,rfl⟩
def zEO(M:Mask)(y:List Int)(k:Int):Int:=if zBJ M y []=0 then(if inB k 0 10=true then 0 else 7)else zBJ M y []
theorem counted_c(w:World)(a a2:Option Addr)(n cap n2 cap2:Nat)(M:Mask)(y:List Int)(k:Int)(hn:M.length=n)(hn2:y.length=n2)(hm:n<=maxLen)(hm2:n2<=maxLen)(H:zAJ w a M)(H2:zAE w a2 y):
 Calls Tryz.prog 232 #[.slice a n cap,.slice a2 n2 cap2,.int .i64 k] w fun e w'=>e=.returned (.int .i64 (zEO M y k))∧Below w.heap.size w w':=by
 have HC:=hid (zGN w a a2 none n cap n2 cap2 0 0 M y [] hn hn2 rfl hm hm2 (by decide) H H2 (fun j hj=>by simp at hj))
 have HW:=hid (fun X=>zJU k 0 10 X)
 obtain⟨E,hE⟩:=exq (zBJ M y [])
 obtain⟨b,hb⟩:=exq (inB k 0 10)
 have hP:zEO M y k=if E=0 then(if b=true then 0 else 7)else E:=by rw[hE,hb];rfl
 rw[<- hE]at HC
 rw[<- hb]at HW
 rw[hP]
 clear hE hb hP hn hn2 H H2
 go_enter Tryz.func232,Tryz.ntmps232
 by_cases h0:E=0
 ·subst h0
  cases b
  all_goals
   go_wp2_with first
    | (go_at_call 101;refine HC.out.mono ?_;rintro e w1 ⟨rfl,hb1⟩)
    | (go_at_call 88;refine(HW.out _).mono ?_;rintro e w2 ⟨rfl,rfl⟩)
   go_ret
   exact⟨rfl,hb1⟩
 ·have hne:(E !=0)=true:=by simp[h0]
  rw[if_neg h0]
  clear h0
  go_wp2_with (go_at_call 101;refine HC.out.mono ?_;rintro e w1 ⟨rfl,hb1⟩)
  go_ret
  exact⟨rfl,hb1⟩
end
section
open Go.RowKit
attribute [local go_sem] Oper.semAt_some
theorem zLC{R:List (List Int)}{n:Nat}(h:(zAR R n).2=0):(zAR R n).1.length=n:=by
 unfold zAR at h⊢
 simp only[]at h⊢
 split
 ·rename_i h1;rw[if_pos h1]at h;simp at h
 ·rename_i h1
  rw[if_neg h1]at h
  split
  ·rename_i h2;rw[if_pos h2]at h;simp at h
  ·simp
theorem fitF_len{M:Mask}{y S:List Int}{f:FitT}(h:fitF M y S=some f):f.1=S∧f.2.length=S.length:=by
 obtain⟨e,h0,_⟩:=zJF h
 rw[e]
 refine⟨rfl,?_⟩
 show(zCI M S y).1.length=S.length
 unfold zCI at h0⊢
 split
 ·rename_i hc
  rw[if_pos hc]at h0
  exact zLC h0
 ·rename_i hc
  rw[if_neg hc]at h0
  exact absurd h0 hc
theorem FitV.keep{lo:Nat}{S:Nat->Prop}{x:FitT}{v:Value}{A B:World}{T:Nat->Prop}(h:FitV lo S x v A)(hk:Keep T A B)(hT:∀k,lo<=k->T k):FitV lo S x v B:=by
 obtain⟨pa,pn,pc,va,vn,vc,e,h1,h2,h3,h4,h5,h6,h7,h8⟩:=h
 refine⟨pa,pn,pc,va,vn,vc,e,h1,h2,h3,h4,fun j hj=>?_,fun j hj=>?_,fun b o e=>?_,fun b o e=>?_⟩
 ·obtain⟨b,o,e2,hlt,hc⟩:=h5 j hj
  exact⟨b,o,e2,Nat.lt_of_lt_of_le hlt hk.size,hk.cell hc (hT b (h7 b o e2).1)⟩
 ·obtain⟨b,o,e2,hlt,hc,hd⟩:=h6 j hj
  exact⟨b,o,e2,Nat.lt_of_lt_of_le hlt hk.size,hk.cell hc (hT b (h8 b o e2).1),hk.cell hd (hT b (h8 b o e2).1)⟩
 ·obtain⟨g1,g2,g3,c,z,g4⟩:=h7 b o e
  exact⟨g1,Nat.lt_of_lt_of_le g2 hk.size,g3,c,z,(hk.block b g2 (hT b g1)).trans g4⟩
 ·obtain⟨g1,g2,g3,c,z,g4⟩:=h8 b o e
  exact⟨g1,Nat.lt_of_lt_of_le g2 hk.size,g3,c,z,(hk.block b g2 (hT b g1)).trans g4⟩
theorem cell_blk{W W':World}{b o:Nat}{v:Value}(h:W.cell? ⟨b,o,none⟩=some v)(hk:W'.heap[b]? =W.heap[b]?):W'.cell? ⟨b,o,none⟩=some v:=
 (World.cell?_of_block (a:=⟨b,o,none⟩) hk).trans h
theorem lt_blk{W W':World}{b:Nat}(h:b<W.heap.size)(hk:W'.heap[b]? =W.heap[b]?):b<W'.heap.size:=by
 rcases Nat.lt_or_ge b W'.heap.size with h'|h'
 ·exact h'
 ·rw[Array.getElem?_eq_none h',Array.getElem?_eq_getElem h]at hk;cases hk
theorem zAE.blk{W W':World}{a:Option Addr}{l:List Int}(h:zAE W a l)(hk:∀k,k<W.heap.size->W'.heap[k]? =W.heap[k]?):zAE W' a l:=by
 intro j hj
 obtain⟨b,off,e,hb,hc⟩:=h j hj
 exact⟨b,off,e,lt_blk hb (hk b hb),cell_blk hc (hk b hb)⟩
theorem zAJ.blk{W W':World}{a:Option Addr}{l:List (List Int)}(h:zAJ W a l)(hk:∀k,k<W.heap.size->W'.heap[k]? =W.heap[k]?):zAJ W' a l:=by
 intro j hj
 obtain⟨b,off,ra,n,cap,e,hb,hc,h1,h2,h3⟩:=h j hj
 exact⟨b,off,ra,n,cap,e,lt_blk hb (hk b hb),cell_blk hc (hk b hb),h1,h2,h3.blk hk⟩
def ElemN(W:World)(base:Nat)(S:Nat->Prop)(u:Value)(l:List Int):Prop:=
 ∃b cap,u=.slice (some ⟨b,0,none⟩) l.length cap∧base<=b∧S b∧zBN W b l∧l.length<=maxLen
def zMU(T:TypeId)(W:World)(base:Nat)(S:Nat->Prop)(v:Value)(ls:List (List Int)):Prop:=
 ∃vs,W.ownsRow base T 1 v ls.length vs∧(∀k,v.ownBlock=some k->S k)∧∀j (hj:j<ls.length),∃u,vs[j]? =some u∧ElemN W base S u ls[j]
theorem zMU.nil(T:TypeId)(W:World)(base:Nat)(S:Nat->Prop):zMU T W base S (.slice none 0 0) []:=
 ⟨[],World.ownsRow_nil _ _ _ _,fun k hk=>by simp[Value.ownBlock]at hk,fun j hj=>by simp at hj⟩
theorem zMU.keep{T:TypeId}{W W':World}{base:Nat}{S S' K:Nat->Prop}{v:Value}{ls:List (List Int)}(h:zMU T W base S v ls)(hk:Keep K W W')(hS:∀b,S b->b<W.heap.size->K b∧S' b):zMU T W' base S' v ls:=by
 obtain⟨vs,ho,hg,he⟩:=h
 refine⟨vs,⟨ho.1,?_⟩,fun k hk'=>?_,fun j hj=>?_⟩
 ·rcases ho.2 with hn|⟨g,cap,cur,rfl,hb,hgg,rest⟩
  ·exact .inl hn
  ·have hlt:=(Array.getElem?_eq_some_iff.1 hgg).1
   exact .inr ⟨g,cap,cur,rfl,hb,(hk.block g hlt (hS g (hg g rfl) hlt).1).trans hgg,rest⟩
 ·rcases ho.2 with⟨rfl,_⟩|⟨g,cap,cur,rfl,hb,hgg,rest⟩
  ·simp[Value.ownBlock]at hk'
  ·obtain rfl:g=k:=by simpa[Value.ownBlock]using hk'
   exact(hS g (hg g rfl) (Array.getElem?_eq_some_iff.1 hgg).1).2
 ·obtain⟨u,hu,b,cap,e,h1,h2,h3,h4⟩:=he j hj
  have:=hS b h2 h3.lt
  exact⟨u,hu,b,cap,e,h1,this.2,h3.keep (hk.block b h3.lt this.1),h4⟩
theorem zMU.snoc{T:TypeId}(hET:3≠T){W w1 w2:World}{base:Nat}{S:Nat->Prop}{v v' u:Value}{ls:List (List Int)}{l:List Int}{vs:List Value}
 (ho:W.ownsRow base T 1 v ls.length vs)(he:∀j (hj:j<ls.length),∃u,vs[j]? =some u∧ElemN W base S u ls[j])(hu:ElemN W base S u l)
 (hW1:Below W.heap.size W w1)(hg:w1.grownBy w2 v.ownBlock)(ho':w2.ownsRow base T 1 v' (ls.length+1) (vs++[u]))(hS':∀k,v'.ownBlock=some k->S k):zMU T w2 base S v' (ls++[l]):=by
 have hlen:vs.length=ls.length:=by have:=ho.1;omega
 have hel:∀u l,ElemN W base S u l->ElemN w2 base S u l:=by
  rintro u l ⟨b,cap,e,h1,h2,h3,h4⟩
  refine⟨b,cap,e,h1,h2,h3.keep ((hg.block b (Nat.lt_of_lt_of_le h3.lt hW1.size) ?_).trans (hW1.block b h3.lt)),h4⟩
  rcases ho.2 with⟨rfl,_⟩|⟨g,cap,cur,rfl,hbg,hgg,_⟩
  ·simp[Value.ownBlock]
  ·intro e
   obtain rfl:b=g:=by simpa[Value.ownBlock]using e
   obtain⟨sp,h3⟩:=h3
   rw[h3]at hgg;cases hgg;exact hET rfl
 refine⟨vs++[u],by simpa using ho',hS',fun j hj=>?_⟩
 by_cases e:j<ls.length
 ·obtain⟨u',hu',hel'⟩:=he j e
  refine⟨u',by rw[List.getElem?_append_left (by omega)];exact hu',?_⟩
  rw[List.getElem_append_left e]
  exact hel _ _ hel'
 ·have:j=ls.length:=by simp at hj;omega
  subst this
  refine⟨u,by rw[List.getElem?_append_right (by omega),hlen];simp,?_⟩
  simp only[List.getElem_append_right (Nat.le_refl _),Nat.sub_self,List.getElem_cons_zero]
  exact hel _ _ hu
structure WholeI (w w3:World) (ob:Nat) (fp:Nat->Prop) (S:Nat->Prop) (L:List (List Int)) (Z:World):Prop where
 b:Below w.heap.size w Z
 f:Keep fp w3 Z
 o:∃v,Boxed Z ob 22 v∧zMU 24 Z (w3.heap.size+2) (fun q=>¬S q∧q≠ob∧q≠w3.heap.size∧q≠w3.heap.size+1) v L
 z:w3.heap.size+2<=Z.heap.size
theorem WholeI.keep{w w3:World}{ob:Nat}{fp S S':Nat->Prop}{L:List (List Int)}{A B:World}(h:WholeI w w3 ob fp S L A)(h1:∀k,S k->S' k)(h2:∀k,S' k->S k∨A.heap.size<=k)(h3:∀k,S' k->w3.heap.size+2<=k)
 (hob:ob<w3.heap.size)(hfp:∀k,fp k->k<w3.heap.size)(hw:w.heap.size<=w3.heap.size)(hk:Keep (fun k=>k≠w3.heap.size∧k≠w3.heap.size+1∧¬S' k) A B):WholeI w w3 ob fp S' L B where
 b:=by
  have hz:=h.z
  exact hk.below h.b (Nat.le_trans hw (by omega)) (fun k hlt=>⟨by omega,by omega,fun hs=>by have:=h3 k hs;omega⟩)
 f:=h.f.trans (hk.mono fun k hlt=>by have:=hfp k hlt;exact⟨by omega,by omega,fun hs=>by have:=h3 k hs;omega⟩)
 o:=by
  obtain⟨v,hv,hr⟩:=h.o
  refine⟨v,(hk.block ob hv.lt ⟨by omega,by omega,fun hs=>by have:=h3 _ hs;omega⟩).trans hv,?_⟩
  refine zMU.keep hr hk ?_
  rintro q ⟨g1,g2,g3,g4⟩ g5
  have:¬S' q:=fun hs=>by
   rcases h2 q hs with g|g
   ·exact g1 g
   ·omega
  exact⟨⟨g3,g4,this⟩,this,g2,g3,g4⟩
 z:=Nat.le_trans h.z hk.size
theorem zED(M:Mask)(y:List Int)(W:Nat):∀t,(zBI M y W t).length<=t*2 ^ W
 |0=>by simp[zBI]
 |t+1=>by
  rw[zCF,List.length_append]
  have h1:=zED M y W t
  have h2:=List.length_filterMap_le (fitF M y) (comb W t 0)
  have h3:=zIC W t 0
  rw[Nat.add_mul]
  omega
end
section
open Go.RowKit
def picB(M:Mask)(x:List Int):Bool:=decide (x.length=zAB M)&&x.all (fun n=>inB n (-1000) 1000)
end
section
open Go.RowKit
theorem rows_two{w:World}{a1 a2:Option Addr}{n1 c1 n2 c2:Nat}{x y:List Int}(T:TypeId)(h1:x.length=n1)(h2:y.length=n2)(m1:n1<=maxLen)(m2:n2<=maxLen)(H1:zAE w a1 x)(H2:zAE w a2 y):
 zAJ (w.alloc (.cells #[.slice a1 n1 c1,.slice a2 n2 c2] T)) (some ⟨w.heap.size,0,none⟩) [x,y]:=by
 have hb:Below w.heap.size w (w.alloc (.cells #[.slice a1 n1 c1,.slice a2 n2 c2] T)):=(Below.refl _ _).alloc (Nat.le_refl _) _
 intro j hj
 match j,hj with
 |0,_=>exact⟨w.heap.size,0,a1,n1,c1,rfl,by simp,by rw[World.cell?_alloc_at _ _ _ _ rfl];rfl,h1,m1,H1.below hb⟩
 |1,_=>exact⟨w.heap.size,0,a2,n2,c2,rfl,by simp,by rw[World.cell?_alloc_at _ _ _ _ rfl];rfl,h2,m2,H2.below hb⟩
end
section
open Go.RowKit
abbrev Frm:=Bool×List Int
def zMV(w:World)(a:Option Addr)(fs:List Frm):Prop:=
 ∀j (hj:j<fs.length),∃b off ra n cap,a=some ⟨b,off,none⟩∧b<w.heap.size∧w.cell? ⟨b,off+j*2,none⟩=some (.bool fs[j].1)∧w.cell? ⟨b,off+j*2+1,none⟩=some (.slice ra n cap)∧fs[j].2.length=n∧n<=maxLen∧zAE w ra fs[j].2
theorem zMV.below{w w':World}{a:Option Addr}{l:List Frm}(h:zMV w a l)(hb:Below w.heap.size w w'):zMV w' a l:=by
 intro j hj
 obtain⟨b,off,ra,n,cap,e,hlt,h0,h1,hn,hm,hi⟩:=h j hj
 exact⟨b,off,ra,n,cap,e,Nat.lt_of_lt_of_le hlt hb.size,(hb.cell (p:=⟨b,_,none⟩) hlt).trans h0,(hb.cell (p:=⟨b,_,none⟩) hlt).trans h1,hn,hm,hi.below hb⟩
end
section
open Go.RowKit
def FrmV(w:World)(v:Value)(f:Frm):Prop:=∃ra n cap,v=.agg #[.bool f.1,.slice ra n cap]∧f.2.length=n∧n<=maxLen∧zAE w ra f.2
theorem FrmV.below{w w':World}{v:Value}{f:Frm}(h:FrmV w v f)(hb:Below w.heap.size w w'):FrmV w' v f:=by
 obtain⟨ra,n,cap,e,hn,hm,hi⟩:=h
 exact⟨ra,n,cap,e,hn,hm,hi.below hb⟩
end
section
open Go.RowKit
def addF(r b:List Int):List Int:=(List.range r.length).map (fun i=>vec r i+vec b i)
def wholeV(M:Mask)(y:List Int)(k:Int):Option (List Int):=if zEO M y k=0 then(match wholeF M y k.toNat with| [r]=>some r|_=>none)else none
def nextF(M:Mask)(k:Int)(before:Option (List Int))(f:Frm):Option (List Int):=
 if f.2.length=0 then none else if f.1=true then some f.2 else
  match before with
  |none=>none
  |some b=>match wholeV M f.2 k with
   |none=>none
   |some r=>if picB M (addF r b)=true then some (addF r b)else none
def decAt(M:Mask)(k:Int)(fs:List Frm):Nat->Option (List Int)
 |0=>none
 |j+1=>nextF M k (decAt M k fs j) (fs[j]?.getD (false,[]))
end
section
open Go.RowKit
def OptV(w:World)(lo:Nat)(S:Nat->Prop)(o:Option (List Int))(v:Value):Prop:=
 (o=none∧v=.slice none 0 0)∨∃x b cap,o=some x∧v=.slice (some ⟨b,0,none⟩) x.length cap∧lo<=b∧S b∧zBN w b x∧1<=x.length∧x.length<=maxLen
theorem OptV.keep{w w':World}{lo:Nat}{S S' K:Nat->Prop}{o:Option (List Int)}{v:Value}(h:OptV w lo S o v)(hk:Keep K w w')(hS:∀b,lo<=b->b<w.heap.size->S b->K b∧S' b):OptV w' lo S' o v:=by
 rcases h with h|⟨x,b,cap,h1,h2,h3,h4,h5,h6,h7⟩
 ·exact .inl h
 ·have:=hS b h3 h5.lt h4
  exact .inr ⟨x,b,cap,h1,h2,h3,this.2,h5.keep (hk.block b h5.lt this.1),h6,h7⟩
theorem OptV.below{w w':World}{lo:Nat}{S:Nat->Prop}{o:Option (List Int)}{v:Value}(h:OptV w lo S o v)(hb:Below w.heap.size w w'):OptV w' lo S o v:=
 h.keep (Keep.of_below hb:Keep (fun _=>True) _ _) (fun _ _ _ h=>⟨trivial,h⟩)
end
section
open Go.RowKit
theorem AnyT.next2{P:Program}{md:Region.Mode}{ops:Array Oper}{Q:Exit->Act->World->Prop}{T:Nat->World->Prop}{i j:Nat}{fuel:Nat}{listed:Array Bool}{a:Act}{w:World}(hr:Region.ready md ops listed=[i,j])
 (h1:wpOp P ops Q i (fun a' w'=>T i w'∧AnyT P md ops Q T fuel (listed.setIfInBounds i true) a' w') a w)
 (h2:wpOp P ops Q j (fun a' w'=>T j w'∧AnyT P md ops Q T fuel (listed.setIfInBounds j true) a' w') a w):AnyT P md ops Q T (fuel+1) listed a w:=
 ⟨fun h0=>(by rw[hr]at h0;cases h0),fun k hk=>by
   rw[hr]at hk
   have:k=i∨k=j:=by simpa using hk
   rcases this with rfl|rfl
   ·exact h1
   ·exact h2⟩
end
section
open Go.RowKit
theorem OptV.mono{w:World}{lo lo':Nat}{S S':Nat->Prop}{o:Option (List Int)}{v:Value}(h:OptV w lo S o v)(hl:lo'<=lo)(hS:∀b,lo<=b->S b->S' b):OptV w lo' S' o v:=by
 rcases h with h|⟨x,b,cap,h1,h2,h3,h4,h5⟩
 ·exact .inl h
 ·exact .inr ⟨x,b,cap,h1,h2,Nat.le_trans hl h3,hS b h3 h4,h5⟩
def DecV(M:Mask)(k:Int)(fs:List Frm)(lo:Nat)(S:Nat->Prop)(j:Nat)(v u:Value)(W:World):Prop:=
 v=.int .i64 j∧OptV W lo (fun b=>¬S b) (decAt M k fs (j+1)) u
end
section
open Go.RowKit
attribute [local go_sem] Oper.semAt_some
theorem DecV.keep{M:Mask}{k:Int}{fs:List Frm}{lo:Nat}{S:Nat->Prop}{j:Nat}{v u:Value}{A B:World}{T:Nat->Prop}(h:DecV M k fs lo S j v u A)(hk:Keep T A B)(hT:∀q,lo<=q->T q):DecV M k fs lo S j v u B:=
 ⟨h.1,h.2.keep hk fun b h1 _ h2=>⟨hT b h1,h2⟩⟩
end
section
open Go.RowKit
def zEU(W:World)(base:Nat)(v:Value)(l:List Rt):Prop:=
 ∃a n cap,v=.slice a n cap∧l.length=n∧n<=maxLen∧∀j (hj:j<l.length),∃b off,a=some ⟨b,off,none⟩∧b<W.heap.size∧(b<base∨∃c f,W.heap[b]? =some (.cells c 29 f))∧
  W.cell? ⟨b,off+j*2,none⟩=some (.int .i64 l[j].1)∧W.cell? ⟨b,off+j*2+1,none⟩=some (.int .i64 l[j].2)
theorem zEU.keep{W W':World}{base:Nat}{T:Nat->Prop}{v:Value}{l:List Rt}(h:zEU W base v l)(hk:Keep T W W')(hT:∀b,b<W.heap.size->(b<base∨∃c f,W.heap[b]? =some (.cells c 29 f))->T b):zEU W' base v l:=by
 obtain⟨a,n,cap,e,hn,hm,hj⟩:=h
 refine⟨a,n,cap,e,hn,hm,fun j hlt=>?_⟩
 obtain⟨b,off,e,hb,hty,h0,h1⟩:=hj j hlt
 have ht:=hT b hb hty
 refine⟨b,off,e,Nat.lt_of_lt_of_le hb hk.size,?_,hk.cell h0 ht,hk.cell h1 ht⟩
 rcases hty with h|⟨c,f,h⟩
 ·exact .inl h
 ·exact .inr ⟨c,f,(hk.block b hb ht).trans h⟩
theorem zEU.below{W W':World}{base:Nat}{v:Value}{l:List Rt}(h:zEU W base v l)(hb:Below W.heap.size W W'):zEU W' base v l:=h.keep (Keep.of_below hb:Keep (fun _=>True) _ _) (fun _ _ _=>trivial)
theorem zEU.rats{W:World}{base n cap:Nat}{a:Option Addr}{l:List Rt}(h:zEU W base (.slice a n cap) l):l.length=n∧n<=maxLen∧zBU W a l:=by
 obtain⟨a',n',cap',e,hn,hm,hj⟩:=h
 cases e
 exact⟨hn,hm,fun j hlt=>by obtain⟨b,off,e,hb,_,h0,h1⟩:=hj j hlt;exact⟨b,off,e,hb,h0,h1⟩⟩
end
section
open Go.RowKit
theorem lvls_mem{n:Nat}{s:List Int}:∀{k:Nat},s∈lvls n k->∃j,j<=k∧s∈comb n j 0
 |0,h=>⟨0,Nat.le_refl _,h⟩
 |k+1,h=>by
  rcases List.mem_append.1 h with h|h
  ·obtain⟨j,hj,h⟩:=lvls_mem h
   exact⟨j,by omega,h⟩
  ·exact⟨k+1,Nat.le_refl _,h⟩
theorem allS_ok{n:Nat}{s:List Int}(h:s∈allS n):s.length<=n∧zCE n s:=by
 obtain⟨j,hj,hs⟩:=lvls_mem h
 exact⟨by rw[zCP n j 0 s hs];exact hj,comb_ok hs⟩
end
section
open Go.RowKit
theorem info_fit:(Tryz.prog.info? 73).map (fun i=>(i.zero,i.size,i.bytes))=some (some (.agg #[.slice none 0 0,.slice none 0 0]),2,48):=by kernel_rfl
def zIW(W:World)(base:Nat)(v:Value)(T:List FitT):Prop:=
 ∃xs,W.ownsRow base 73 2 v T.length xs∧∀j (hj:j<T.length),∃us ur,xs[j*2]? =some us∧xs[j*2+1]? =some ur∧zEV 3 W base (fun _=>True) us T[j].1∧zEU W base ur T[j].2
theorem zIW.nil(W:World)(base:Nat):zIW W base (.slice none 0 0) []:=⟨[],World.ownsRow_nil _ _ _ _,fun j hj=>by simp at hj⟩
theorem zIW.below{W W':World}{base:Nat}{v:Value}{T:List FitT}(h:zIW W base v T)(hb:Below W.heap.size W W'):zIW W' base v T:=by
 obtain⟨xs,ho,he⟩:=h
 refine⟨xs,zBG ho hb,fun j hj=>?_⟩
 obtain⟨us,ur,h1,h2,h3,h4⟩:=he j hj
 exact⟨us,ur,h1,h2,h3.keep (Keep.of_below hb:Keep (fun _=>True) _ _) (fun _ _ _ _=>trivial),h4.below hb⟩
theorem zIW.slice{W:World}{base:Nat}{v:Value}{T:List FitT}(h:zIW W base v T):∃a c,v=.slice a T.length c:=by
 obtain⟨xs,ho,_⟩:=h;exact zAG ho
def zFR(w:World)(a:Option Addr)(T:List FitT):Prop:=
 ∀j (hj:j<T.length),∃b off pa pn pc va vn vc,a=some ⟨b,off,none⟩∧b<w.heap.size∧w.cell? ⟨b,off+j*2,none⟩=some (.slice pa pn pc)∧w.cell? ⟨b,off+j*2+1,none⟩=some (.slice va vn vc)∧
  T[j].1.length=pn∧pn<=maxLen∧zAE w pa T[j].1∧T[j].2.length=vn∧vn<=maxLen∧zBU w va T[j].2
theorem zFR.below{w w':World}{a:Option Addr}{T:List FitT}(h:zFR w a T)(hb:Below w.heap.size w w'):zFR w' a T:=by
 intro j hj
 obtain⟨b,off,pa,pn,pc,va,vn,vc,e,hlt,h0,h1,h2,h3,h4,h5,h6,h7⟩:=h j hj
 exact⟨b,off,pa,pn,pc,va,vn,vc,e,Nat.lt_of_lt_of_le hlt hb.size,(hb.cell (p:=⟨b,_,none⟩) hlt).trans h0,(hb.cell (p:=⟨b,_,none⟩) hlt).trans h1,h2,h3,h4.below hb,h5,h6,h7.below hb⟩
theorem zIW.reads{W:World}{base:Nat}{v:Value}{T:List FitT}(h:zIW W base v T):∃a cap,v=.slice a T.length cap∧T.length<=maxLen∧zFR W a T:=by
 obtain⟨xs,ho,he⟩:=h
 rcases ho.2 with⟨rfl,h0⟩|⟨g,cap,cur,rfl,hbg,hgg,hnc,hcm,hsz,htk⟩
 ·exact⟨none,0,by rw[h0],by rw[h0];decide,fun j hj=>by omega⟩
 ·refine⟨_,cap,rfl,by omega,fun j hj=>?_⟩
  obtain⟨us,ur,h1,h2,h3,h4⟩:=he j hj
  have hc:∀i,i<T.length*2->W.cell? ⟨g,i,none⟩=xs[i]? :=fun i hi=>
   World.ownsRow.cellAt (w:=W) (base:=base) (e:=73) (size:=2) (g:=g) (n:=T.length) (cap:=cap) (xs:=xs) ⟨ho.1,.inr ⟨g,cap,cur,rfl,hbg,hgg,hnc,hcm,hsz,htk⟩⟩ i hi
  obtain⟨sa,sn,sc,rfl,_⟩:=id h3
  obtain⟨ra,rn,rc,rfl,_⟩:=id h4
  obtain⟨k1,k2,k3⟩:=h3.ints
  obtain⟨m1,m2,m3⟩:=h4.rats
  exact⟨g,0,sa,sn,sc,ra,rn,rc,rfl,(Array.getElem?_eq_some_iff.1 hgg).1,by rw[Nat.zero_add,hc _ (by omega)];exact h1,by rw[Nat.zero_add,hc _ (by omega)];exact h2,k1,k2,k3,m1,m2,m3⟩
theorem zIW.snoc{W w1 w2:World}{base:Nat}{v v' us ur:Value}{T:List FitT}{t:FitT}{xs:List Value}
 (ho:W.ownsRow base 73 2 v T.length xs)(he:∀j (hj:j<T.length),∃us ur,xs[j*2]? =some us∧xs[j*2+1]? =some ur∧zEV 3 W base (fun _=>True) us T[j].1∧zEU W base ur T[j].2)
 (h1:zEV 3 W base (fun _=>True) us t.1)(h2:zEU W base ur t.2)
 (hW1:Below W.heap.size W w1)(hg:w1.grownBy w2 v.ownBlock)(ho':w2.ownsRow base 73 2 v' (T.length+1) (xs++[us,ur])):zIW w2 base v' (T++[t]):=by
 have hlen:xs.length=T.length*2:=ho.1
 have hgb:∀(E:TypeId),E≠73->∀b,(b<base∨∃c f,W.heap[b]? =some (.cells c E f))->b<W.heap.size->w2.heap[b]? =W.heap[b]? :=by
  intro E hE b hty hb
  refine(hg.block b (Nat.lt_of_lt_of_le hb hW1.size) ?_).trans (hW1.block b hb)
  rcases ho.2 with⟨rfl,_⟩|⟨g,cap,cur,rfl,hbg,hgg,_⟩
  ·simp[Value.ownBlock]
  ·intro e
   obtain rfl:b=g:=by simpa[Value.ownBlock]using e
   rcases hty with h|⟨c,f,h⟩
   ·omega
   ·rw[h]at hgg;cases hgg;exact hE rfl
 have hel:∀u l,zEV 3 W base (fun _=>True) u l->zEV 3 w2 base (fun _=>True) u l:=by
  intro u l h
  refine h.keep (T:=fun b=>b<W.heap.size∧(b<base∨∃c f,W.heap[b]? =some (.cells c 3 f))) ⟨hg.os.trans hW1.os,hg.tape.trans hW1.tape,hg.output.trans hW1.output,Nat.le_trans hW1.size hg.size,fun k hk hT=>hgb 3 (by decide) k hT.2 hk⟩ fun b _ hb hty=>⟨hb,hty⟩
 have heq:∀u l,zEU W base u l->zEU w2 base u l:=by
  intro u l h
  refine h.keep (T:=fun b=>b<W.heap.size∧(b<base∨∃c f,W.heap[b]? =some (.cells c 29 f))) ⟨hg.os.trans hW1.os,hg.tape.trans hW1.tape,hg.output.trans hW1.output,Nat.le_trans hW1.size hg.size,fun k hk hT=>hgb 29 (by decide) k hT.2 hk⟩ fun b hb hty=>⟨hb,hty⟩
 refine⟨xs++[us,ur],by rw[List.length_append];exact ho',fun j hj=>?_⟩
 by_cases e:j<T.length
 ·obtain⟨us',ur',k1,k2,k3,k4⟩:=he j e
  refine⟨us',ur',by rw[List.getElem?_append_left (by omega)];exact k1,by rw[List.getElem?_append_left (by omega)];exact k2,?_,?_⟩
  ·rw[List.getElem_append_left e];exact hel _ _ k3
  ·rw[List.getElem_append_left e];exact heq _ _ k4
 ·have:j=T.length:=by simp at hj;omega
  subst this
  refine⟨us,ur,by rw[List.getElem?_append_right (by omega),hlen];simp,by rw[List.getElem?_append_right (by omega),hlen,show T.length*2+1-T.length*2=1 by omega];rfl,?_,?_⟩
  ·simp only[List.getElem_append_right (Nat.le_refl _),Nat.sub_self,List.getElem_cons_zero];exact hel _ _ h1
  ·simp only[List.getElem_append_right (Nat.le_refl _),Nat.sub_self,List.getElem_cons_zero];exact heq _ _ h2
def allF(M:Mask)(y:List Int):List FitT:=(allS (zAB M)).filterMap (fitF M y)
end
section
open Go.RowKit
def fitsR(M:Mask)(y:List Int)(k:Int):List FitT:=(allF M y).filter (fun f=>decide ((f.1.length:Int)<=k))
end
section
open Go.RowKit
theorem zLU{M:Mask}{y:List Int}{f:FitT}(h:f∈allF M y):zCE (zAB M) f.1∧f.2.length=f.1.length∧f.1.length<=zAB M:=by
 unfold allF at h
 obtain⟨S,hS,e⟩:=List.mem_filterMap.1 h
 obtain⟨h1,h2⟩:=fitF_len e
 rw[h1]
 exact⟨(allS_ok hS).2,h2,(allS_ok hS).1⟩
end
section
theorem lvls_fits(M:Mask)(y:List Int)(n:Nat):∀k,(lvls n k).filterMap (fitF M y)=zBI M y n (k+1)
 |0=>by
  rw[zCF]
  show(comb n 0 0).filterMap (fitF M y)=zBI M y n 0++_
  simp[zBI]
 |k+1=>by
  rw[zCF,<- lvls_fits M y n k]
  show(lvls n k++comb n (k+1) 0).filterMap (fitF M y)=_
  rw[List.filterMap_append]
theorem allF_to(M:Mask)(y:List Int):allF M y=zBI M y (zAB M) (zAB M+1):=lvls_fits M y _ _
theorem fits_size{M:Mask}{y:List Int}{W j:Nat}{f:FitT}(h:f∈(comb W j 0).filterMap (fitF M y)):f.1.length=j:=by
 obtain⟨S,hS,e⟩:=List.mem_filterMap.1 h
 rw[(fitF_len e).1]
 exact zCP _ _ _ _ hS
theorem fits_cut(M:Mask)(y:List Int)(W k:Nat):∀t,(zBI M y W t).filter (fun f=>decide ((f.1.length:Int)<=(k:Int)))=zBI M y W (min t (k+1))
 |0=>by simp[zBI]
 |t+1=>by
  rw[zCF,List.filter_append,fits_cut M y W k t]
  rcases Nat.lt_or_ge k t with h|h
  ·have h1:((comb W t 0).filterMap (fitF M y)).filter (fun f=>decide ((f.1.length:Int)<=(k:Int)))=[]:=by
    rw[List.filter_eq_nil_iff]
    intro f hf
    have:=fits_size hf
    simp;omega
   rw[h1,List.append_nil,show min t (k+1)=k+1 by omega,show min (t+1) (k+1)=k+1 by omega]
  ·have h1:((comb W t 0).filterMap (fitF M y)).filter (fun f=>decide ((f.1.length:Int)<=(k:Int)))=(comb W t 0).filterMap (fitF M y):=by
    rw[List.filter_eq_self]
    intro f hf
    have:=fits_size hf
    simp;omega
   rw[h1,show min t (k+1)=t by omega,show min (t+1) (k+1)=t+1 by omega,zCF]
theorem fit_long{M:Mask}{y S:List Int}(h:M.length<S.length):fitF M y S=none:=by
 unfold fitF
 rw[if_neg]
 rintro⟨h0,_⟩
 unfold zCI at h0
 split at h0
 ·rename_i hc
  obtain⟨hM,hy,hyB,hS⟩:=zHL hc
  have hmo:=(zCY hM).1
  have hY:=(hmo.cols S).addY (y:=y) (by rw[zBM];exact hy) (Y:=1000000) (by decide) (fun v hv=>by
   unfold milB at hyB
   have:=List.all_eq_true.1 hyB v hv
   unfold inB at this
   simp at this;omega)
  have hi:=zBX (zAF (zAU M S) y) hY.wid S.length (fun j hj q=>zBS (by decide) (fun r hr=>hY.one r hr j hj) q)
  have hk:=hi.K_le
  rw[zDQ (by rw[zBM];exact hy),zBM]at hk
  unfold zAR at h0
  simp only[]at h0
  split at h0
  ·simp at h0
  ·split at h0
   ·simp at h0
   ·omega
 ·rename_i hc;exact hc h0
theorem fits_long(M:Mask)(y:List Int)(W:Nat):∀d,zBI M y W (M.length+1+d)=zBI M y W (M.length+1)
 |0=>rfl
 |d+1=>by
  rw[show M.length+1+(d+1)=(M.length+1+d)+1 by omega,zCF,fits_long M y W d]
  have h1:(comb W (M.length+1+d) 0).filterMap (fitF M y)=[]:=by
   rw[List.filterMap_eq_nil_iff]
   intro S hS
   refine fit_long ?_
   rw[zCP _ _ _ _ hS];omega
  rw[h1,List.append_nil]
theorem fits_same(M:Mask)(y:List Int)(k:Nat):fitsR M y (k:Int)=zBT M y k:=by
 unfold fitsR zBT
 rw[allF_to,fits_cut]
 rcases Nat.lt_or_ge M.length (min k (zAB M))with h|h
 ·obtain⟨d,hd⟩:∃d,min (zAB M+1) (k+1)=M.length+1+d:=⟨min (zAB M+1) (k+1)-(M.length+1),by omega⟩
  rw[hd,fits_long,show min (min k (zAB M)) M.length+1=M.length+1 by omega]
 ·rw[show min (zAB M+1) (k+1)=min (min k (zAB M)) M.length+1 by omega]
end
section
open Go.RowKit
attribute [local go_sem] Oper.semAt_some
structure MissI (w w3:World) (ob:Nat) (fp:Nat->Prop) (S:Nat->Prop) (L:List Int) (Z:World):Prop where
 b:Below w.heap.size w Z
 f:Keep fp w3 Z
 o:∃v,Boxed Z ob 24 v∧Z.ownsRow (w3.heap.size+2) 3 1 v L.length (L.map (Value.int .i64))∧∀k,v.ownBlock=some k->¬S k∧k≠ob∧k≠w3.heap.size∧k≠w3.heap.size+1
 z:w3.heap.size+2<=Z.heap.size
theorem own_keep2{W W':World}{base:Nat}{T:TypeId}{k n:Nat}{v:Value}{xs:List Value}(h:W.ownsRow base T k v n xs){K:Nat->Prop}(hk:Keep K W W')(hK:∀g,v.ownBlock=some g->K g):W'.ownsRow base T k v n xs:=by
 refine⟨h.1,?_⟩
 rcases h.2 with hn|⟨g,cap,cur,rfl,hbg,hgg,rest⟩
 ·exact .inl hn
 ·exact .inr ⟨g,cap,cur,rfl,hbg,(hk.block g (Array.getElem?_eq_some_iff.1 hgg).1 (hK g rfl)).trans hgg,rest⟩
theorem MissI.keep{w w3:World}{ob:Nat}{fp S S':Nat->Prop}{L:List Int}{A B:World}(h:MissI w w3 ob fp S L A)(h1:∀k,S k->S' k)(h2:∀k,S' k->S k∨A.heap.size<=k)(h3:∀k,S' k->w3.heap.size+2<=k)
 (hob:ob<w3.heap.size)(hfp:∀k,fp k->k<w3.heap.size)(hw:w.heap.size<=w3.heap.size)(hk:Keep (fun k=>k≠w3.heap.size∧k≠w3.heap.size+1∧¬S' k) A B):MissI w w3 ob fp S' L B where
 b:=by
  have hz:=h.z
  exact hk.below h.b (Nat.le_trans hw (by omega)) (fun k hlt=>⟨by omega,by omega,fun hs=>by have:=h3 k hs;omega⟩)
 f:=h.f.trans (hk.mono fun k hlt=>by have:=hfp k hlt;exact⟨by omega,by omega,fun hs=>by have:=h3 k hs;omega⟩)
 o:=by
  obtain⟨v,hv,ho,hg⟩:=h.o
  have hg':∀k,v.ownBlock=some k->¬S' k∧k≠ob∧k≠w3.heap.size∧k≠w3.heap.size+1:=fun k hk'=>by
   obtain⟨g1,g2⟩:=hg k hk'
   refine⟨fun hs=>?_,g2⟩
   rcases h2 k hs with g|g
   ·exact g1 g
   ·have:=(ho.lt k hk').2;omega
  exact⟨v,(hk.block ob hv.lt ⟨by omega,by omega,fun hs=>by have:=h3 _ hs;omega⟩).trans hv,own_keep2 ho hk (fun g hgk=>⟨(hg' g hgk).2.2.1,(hg' g hgk).2.2.2,(hg' g hgk).1⟩),hg'⟩
 z:=Nat.le_trans h.z hk.size
end
section
open Go.RowKit
theorem OptV.slice{W:World}{base:Nat}{S:Nat->Prop}{o:Option (List Int)}{u:Value}(h:OptV W base S o u):∃a c,u=.slice a (o.getD []).length c∧(o.getD []).length<=maxLen∧zAE W a (o.getD [])∧(a=none↔o=none):=by
 rcases h with⟨rfl,rfl⟩|⟨x,b,c,rfl,rfl,_,_,h,_,h2⟩
 ·exact⟨none,0,rfl,by simp,fun j hj=>by simp at hj,by simp⟩
 ·exact⟨_,c,rfl,h2,h.ints,by simp⟩
def zIV(W:World)(base:Nat)(S:Nat->Prop)(v:Value)(os:List (Option (List Int))):Prop:=
 ∃vs,W.ownsRow base 24 1 v os.length vs∧(∀k,v.ownBlock=some k->S k)∧∀j (hj:j<os.length),∃u,vs[j]? =some u∧OptV W base S os[j] u
theorem zIV.nil(W:World)(base:Nat)(S:Nat->Prop):zIV W base S (.slice none 0 0) []:=
 ⟨[],World.ownsRow_nil _ _ _ _,fun k hk=>by simp[Value.ownBlock]at hk,fun j hj=>by simp at hj⟩
theorem zIV.slice{W:World}{base:Nat}{S:Nat->Prop}{v:Value}{T:List (Option (List Int))}(h:zIV W base S v T):∃a c,v=.slice a T.length c:=by
 obtain⟨xs,ho,_⟩:=h;exact zAG ho
theorem zIV.keep{W W':World}{base:Nat}{S S' K:Nat->Prop}{v:Value}{ls:List (Option (List Int))}(h:zIV W base S v ls)(hk:Keep K W W')(hS:∀b,S b->b<W.heap.size->K b∧S' b):zIV W' base S' v ls:=by
 obtain⟨vs,ho,hg,he⟩:=h
 refine⟨vs,⟨ho.1,?_⟩,fun k hk'=>?_,fun j hj=>?_⟩
 ·rcases ho.2 with hn|⟨g,cap,cur,rfl,hb,hgg,rest⟩
  ·exact .inl hn
  ·have hlt:=(Array.getElem?_eq_some_iff.1 hgg).1
   exact .inr ⟨g,cap,cur,rfl,hb,(hk.block g hlt (hS g (hg g rfl) hlt).1).trans hgg,rest⟩
 ·rcases ho.2 with⟨rfl,_⟩|⟨g,cap,cur,rfl,hb,hgg,rest⟩
  ·simp[Value.ownBlock]at hk'
  ·obtain rfl:g=k:=by simpa[Value.ownBlock]using hk'
   exact(hS g (hg g rfl) (Array.getElem?_eq_some_iff.1 hgg).1).2
 ·obtain⟨u,hu,hel⟩:=he j hj
  exact⟨u,hu,hel.keep hk (fun b _ hb hs=>hS b hs hb)⟩
theorem zIV.below{W W':World}{base:Nat}{S:Nat->Prop}{v:Value}{ls:List (Option (List Int))}(h:zIV W base S v ls)(hb:Below W.heap.size W W'):zIV W' base S v ls:=
 h.keep (Keep.of_below hb:Keep (fun _=>True) _ _) (fun _ h _=>⟨trivial,h⟩)
theorem OptV.grown{W w1 w2:World}{base n:Nat}{S:Nat->Prop}{v u:Value}{l:Option (List Int)}{vs:List Value}(ho:W.ownsRow base 24 1 v n vs)(h:OptV W base S l u)(hW1:Below W.heap.size W w1)(hg:w1.grownBy w2 v.ownBlock):OptV w2 base S l u:=by
 rcases h with (h|⟨x,b,cap,e,e2,h1,h2,h3,h4⟩)
 ·exact .inl h
 refine .inr ⟨x,b,cap,e,e2,h1,h2,h3.keep ((hg.block b (Nat.lt_of_lt_of_le h3.lt hW1.size) ?_).trans (hW1.block b h3.lt)),h4⟩
 rcases ho.2 with⟨rfl,_⟩|⟨g,cap,cur,rfl,hbg,hgg,_⟩
 ·simp[Value.ownBlock]
 ·intro e
  obtain rfl:b=g:=by simpa[Value.ownBlock]using e
  obtain⟨sp,h3⟩:=h3
  rw[h3]at hgg;cases hgg
theorem zIV.snoc{W w1 w2:World}{base:Nat}{S:Nat->Prop}{v v' u:Value}{ls:List (Option (List Int))}{l:Option (List Int)}{vs:List Value}
 (ho:W.ownsRow base 24 1 v ls.length vs)(he:∀j (hj:j<ls.length),∃u,vs[j]? =some u∧OptV W base S ls[j] u)(hu:OptV W base S l u)
 (hW1:Below W.heap.size W w1)(hg:w1.grownBy w2 v.ownBlock)(ho':w2.ownsRow base 24 1 v' (ls.length+1) (vs++[u]))(hS':∀k,v'.ownBlock=some k->S k):zIV w2 base S v' (ls++[l]):=by
 have hlen:vs.length=ls.length:=by have:=ho.1;omega
 have hel:∀u l,OptV W base S l u->OptV w2 base S l u:=fun u l h=>h.grown ho hW1 hg
 refine⟨vs++[u],by simpa using ho',hS',fun j hj=>?_⟩
 by_cases e:j<ls.length
 ·obtain⟨u',hu',hel'⟩:=he j e
  refine⟨u',by rw[List.getElem?_append_left (by omega)];exact hu',?_⟩
  rw[List.getElem_append_left e]
  exact hel _ _ hel'
 ·have:j=ls.length:=by simp at hj;omega
  subst this
  refine⟨u,by rw[List.getElem?_append_right (by omega),hlen];simp,?_⟩
  simp only[List.getElem_append_right (Nat.le_refl _),Nat.sub_self,List.getElem_cons_zero]
  exact hel _ _ hu
def OptsAt(W:World)(a:Option Addr)(os:List (Option (List Int))):Prop:=
 ∀j (hj:j<os.length),∃b off ra rn rc,a=some ⟨b,off,none⟩∧b<W.heap.size∧W.cell? ⟨b,off+j,none⟩=some (.slice ra rn rc)∧(os[j].getD []).length=rn∧rn<=maxLen∧zAE W ra (os[j].getD [])∧(ra=none↔os[j]=none)
theorem OptsAt.below{w w':World}{a:Option Addr}{l:List (Option (List Int))}(h:OptsAt w a l)(hb:Below w.heap.size w w'):OptsAt w' a l:=by
 intro j hj
 obtain⟨b,off,ra,n,cap,e,hlt,h0,hn,hm,hi,hnn⟩:=h j hj
 exact⟨b,off,ra,n,cap,e,Nat.lt_of_lt_of_le hlt hb.size,(hb.cell (p:=⟨b,_,none⟩) hlt).trans h0,hn,hm,hi.below hb,hnn⟩
end
section
open Go.RowKit
theorem light_c(w:World)(a:Option Addr)(n cap:Nat)(M:Mask)(hn:M.length=n)(hm:n<=maxLen)(H:zAJ w a M):
 Calls Tryz.prog 16 #[.slice a n cap] w fun e w'=>SomeB e∧w=w':=by
 have HN:=hid hn
 have HH:=hid H
 clear hn H
 unfold maxLen at hm
 go_enter Tryz.func16,Tryz.ntmps16
 go_wp2
 go_loop [3,8] (fun s i=>∃k:Nat,k<=n∧i=.int .i64 k∧∃z:Int,s=.int .i64 z) (fun _ i=>n-(intOf i).toNat)
 case atStart=>exact⟨0,Nat.zero_le _,rfl,_,rfl⟩
 case round=>
  obtain⟨k,hk,rfl,z,rfl⟩:=hrel
  by_cases hlt:k<n
  ·have hkl:k<M.length:=by rw[HN.out];exact hlt
   obtain⟨b,off,ra,rn,rc,rfl,hbs,hq0,hrn,hrm,hri⟩:=HH.out k hkl
   clear hrn hri hkl hrm
   by_cases h7:(7:Int)<(rn:Int)
   ·by_cases h10:(rn:Int)<=10
    ·go_wp2
     go_ret
     exact⟨⟨_,rfl⟩,rfl⟩
    ·go_wp2
     go_round
     case rel=>exact⟨k+1,by omega,by go_num,_,rfl⟩
     case measure=>simp[intOf];omega
   ·go_wp2
    go_round
    case rel=>exact⟨k+1,by omega,by go_num,_,rfl⟩
    case measure=>simp[intOf];omega
  ·go_wp2
   go_ret
   exact⟨⟨_,rfl⟩,rfl⟩
end
section
open Go.RowKit
theorem named_of{W:Nat}{l:List Int}(h:zCE W l):zEW W l=0:=by
 have h1:ascB l=true:=by
  unfold ascB
  rw[decide_eq_true_eq]
  intro i hi
  rw[List.getElem?_eq_getElem (by omega),List.getElem?_eq_getElem (by omega)]
  exact List.pairwise_iff_getElem.1 h.1 i (i+1) (by omega) (by omega) (by omega)
 unfold zEW
 rw[if_pos h1,if_pos]
 rw[List.all_eq_true]
 intro p hp
 have:=h.2 p hp
 unfold inB;simp;omega
theorem pix_of{M:Mask}{S:List Int}(hM:okM M=true)(h:zCE (zAB M) S):pixE M S=0:=by unfold pixE;rw[if_pos hM,named_of h]
theorem zMT{M:Mask}{y S:List Int}(hM:okM M=true)(hy:y.length=M.length)(hmil:milB y=true)(h:zCE (zAB M) S):zBJ M y S=0:=by
 unfold zBJ;rw[if_pos hM,if_pos hy,if_pos hmil,pix_of hM h]
end
section
theorem fits_mem{M:Mask}{y:List Int}(hM:okM M=true)(hy:y.length=M.length)(hmil:milB y=true){f:FitT}:f∈zBT M y 10↔∃S,zCE (zAB M) S∧fitF M y S=some f:=by
 obtain⟨hO,hm1,_,hc1,hc10⟩:=zCY hM
 have hmil':∀v∈y,-1000000<=v∧v<=1000000:=fun v hv=>by have:=zJC hmil v hv;omega
 unfold zBT zBI
 rw[List.mem_flatMap]
 constructor
 ·rintro⟨j,_,hj⟩
  obtain⟨S,hS,hf⟩:=List.mem_filterMap.1 hj
  exact⟨S,comb_ok hS,hf⟩
 ·rintro⟨S,hS,hf⟩
  obtain⟨_,h1,_⟩:=zJF hf
  have hsv:zCI M S y=zAR (zAF (zAU M S) y) S.length:=by unfold zCI;rw[if_pos (zMT hM hy hmil hS)]
  rw[hsv]at h1
  obtain⟨hr,_⟩:=solve_to (hO.cols S) (by rw[zBM];exact hy) hmil' h1
  have hrk:=rank_le (hO.cols S)
  rw[hr,zBM]at hrk
  have hW:=set_le hS
  refine⟨S.length,List.mem_range.2 (by omega),List.mem_filterMap.2 ⟨S,zHI (zAB M) 0 S hS.1 (fun y hy=>by have:=hS.2 y hy;omega),hf⟩⟩
theorem sum_supp{n:Nat}{k:Nat->Int}(r:Nat->Int):sm (fun i=>zEM (zAT n k) r i*vec ((zAT n k).map fun j=>k j.toNat) i) (zAT n k).length=sm (fun c=>r c*k c) n:=by
 have hS:=zCV n k
 rw[<- zFY hS r _ (Nat.le_refl _)]
 unfold dotS
 refine zAH fun c hc=>?_
 rw[zGH hS (fun j hj hm=>?_) hc]
 rcases Classical.em (k j=0)with c|c
 ·exact c
 ·exact absurd (zBL.2 ⟨hj,c⟩) hm
theorem nrm_supp{n:Nat}{k:Nat->Int}:nrmI (vec ((zAT n k).map fun j=>k j.toNat)) (zAT n k).length=nrmI k n:=by
 have h:=sum_supp (n:=n) (k:=k) (fun c=>sgnI (k c))
 have e1:sm (fun c=>sgnI (k c)*k c) n=nrmI k n:=zAH fun c _=>zIX _
 rw[e1]at h
 rw[<- h]
 refine zAH fun i hi=>?_
 have e2:vec ((zAT n k).map fun j=>k j.toNat) i=k ((zAT n k)[i]).toNat:=by unfold vec;rw[List.getElem?_map,List.getElem?_eq_getElem hi];rfl
 have e3:zEM (zAT n k) (fun c=>sgnI (k c)) i=sgnI (k ((zAT n k)[i]).toNat):=by unfold zEM;rw[List.getElem?_eq_getElem hi]
 rw[e2,e3,zIX]
theorem fit_of_sol{M:Mask}{y:List Int}(hM:okM M=true)(hy:y.length=M.length)(hmil:milB y=true){k:Nat->Int}{E:Int}(hk:SolM M (zAB M) y k E)(hr:zEH (zAU M (zAT (zAB M) k)) (zAT (zAB M) k).length=(zAT (zAB M) k).length):
 ∃f,f∈zBT M y 10∧f.1=zAT (zAB M) k∧f.2.length=f.1.length∧(∀i,i<f.1.length->(zAD f.2 i).1*E=k ((f.1[i]?.getD 0).toNat)*(zAD f.2 i).2)∧(∀i,0<(zAD f.2 i).2)∧(nrmQ f.2).1*E=(nrmQ f.2).2*nrmI k (zAB M)∧0<(nrmQ f.2).2:=by
 obtain⟨hO,hm1,_,hc1,hc10⟩:=zCY hM
 have hmil':∀v∈y,-1000000<=v∧v<=1000000:=fun v hv=>by have:=zJC hmil v hv;omega
 have hS:=zCV (zAB M) k
 have hy':y.length=(zAU M (zAT (zAB M) k)).length:=by rw[zBM];exact hy
 have hsys:∀q,q<(zAU M (zAT (zAB M) k)).length->sm (fun i=>rowv (zAU M (zAT (zAB M) k)) q i*vec ((zAT (zAB M) k).map fun j=>k j.toNat) i) (zAT (zAB M) k).length=vec y q*E:=by
  intro q hq
  rw[zBM]at hq
  rw[zGA,sum_supp,hk.2 q hq]
 obtain⟨k1,k2,k3⟩:=solve_of (hO.cols _) hy' hmil' hr (show E≠0 by have:=hk.1;omega) hsys
 obtain⟨_,_,_,_,_,_,_,hpos,_,_⟩:=zFD (hO.cols _) hy' hmil' k1
 have hsv:zCI M (zAT (zAB M) k) y=zAR (zAF (zAU M (zAT (zAB M) k)) y) (zAT (zAB M) k).length:=by unfold zCI;rw[if_pos (zMT hM hy hmil hS)]
 have hvk:∀i (hi:i<(zAT (zAB M) k).length),vec ((zAT (zAB M) k).map fun j=>k j.toNat) i=k ((zAT (zAB M) k)[i]).toNat:=fun i hi=>by unfold vec;rw[List.getElem?_map,List.getElem?_eq_getElem hi];rfl
 obtain⟨P,hP⟩:=exq (zAR (zAF (zAU M (zAT (zAB M) k)) y) (zAT (zAB M) k).length)
 rw[<- hP]at k1 k2 k3 hpos hsv
 have hfit:fitF M y (zAT (zAB M) k)=some (zAT (zAB M) k,P.1):=by
  unfold fitF
  rw[hsv,if_pos]
  refine⟨k1,List.all_eq_true.2 fun r hr=>?_⟩
  obtain⟨i,hi,rfl⟩:=List.mem_iff_getElem.1 hr
  have hi':i<(zAT (zAB M) k).length:=by omega
  obtain⟨c1,c2,_⟩:=k3 i hi'
  have e1:zAD P.1 i=P.1[i]:=by unfold zAD;rw[List.getElem?_eq_getElem hi];rfl
  rw[e1,hvk i hi']at c1
  rw[e1]at c2
  have h0:k ((zAT (zAB M) k)[i]).toNat≠0:=by
   have hm:=List.getElem_mem hi'
   have hb:=hS.get hi'
   rw[show(zAT (zAB M) k)[i]=((((zAT (zAB M) k)[i]).toNat:Nat):Int)by omega]at hm
   exact(zBL.1 hm).2
  rw[decide_eq_true_eq]
  intro e
  rw[e,Int.zero_mul]at c1
  exact Int.mul_ne_zero h0 (by omega) c1.symm
 have hvals:∀i,i<(zAT (zAB M) k).length->(zAD P.1 i).1*E=vec ((zAT (zAB M) k).map fun j=>k j.toNat) i*(zAD P.1 i).2:=fun i hi=>(k3 i hi).1
 have hn:=zGY hk.1 hpos (zAT (zAB M) k).length hvals
 rw[nrm_supp]at hn
 have hq:nrmQ P.1=zCD P.1 (zAT (zAB M) k).length:=by unfold nrmQ;rw[k2]
 refine⟨(zAT (zAB M) k,P.1),(fits_mem hM hy hmil).2 ⟨_,hS,hfit⟩,rfl,k2,fun i hi=>?_,hpos,by rw[hq];exact hn,by rw[hq];exact(zJZ hpos _).1⟩
 have hi':i<(zAT (zAB M) k).length:=hi
 have:=hvals i hi'
 rw[hvk i hi']at this
 show(zAD P.1 i).1*E=k (((zAT (zAB M) k)[i]?.getD 0).toNat)*(zAD P.1 i).2
 rw[List.getElem?_eq_getElem hi']
 exact this
theorem zHU{M:Mask}{y:List Int}(hM:okM M=true)(hy:y.length=M.length)(hmil:milB y=true){f:FitT}(hf:f∈zBT M y 10):
 zCE (zAB M) f.1∧f.2.length=f.1.length∧f.2.all zAL=true∧(∀r∈f.2,r.1≠0)∧0<(nrmQ f.2).2∧zAL (zAZ (nrmQ f.2).1 (nrmQ f.2).2)=true∧zEH (zAU M f.1) f.1.length=f.1.length∧
  ∃(l:Nat->Int) (D:Int),SolM M (zAB M) y l D∧D<=288∧(∀c,c<zAB M->(c:Int)∉f.1->l c=0)∧(∀i (hi:i<f.1.length),(zAD f.2 i).1*D=l (f.1[i]).toNat*(zAD f.2 i).2)∧(nrmQ f.2).1*D=(nrmQ f.2).2*nrmI l (zAB M):=by
 obtain⟨hO,hm1,_,hc1,hc10⟩:=zCY hM
 have hmil':∀v∈y,-1000000<=v∧v<=1000000:=fun v hv=>by have:=zJC hmil v hv;omega
 obtain⟨S,hS,hfit⟩:=(fits_mem hM hy hmil).1 hf
 obtain⟨rfl,h1,h2⟩:=zJF hfit
 have hsv:zCI M S y=zAR (zAF (zAU M S) y) S.length:=by unfold zCI;rw[if_pos (zMT hM hy hmil hS)]
 rw[hsv]at h1 h2⊢
 have hy':y.length=(zAU M S).length:=by rw[zBM];exact hy
 obtain⟨l,D,hD,hD288,k1,_,k3,hpos,hr,hv⟩:=zFD (hO.cols S) hy' hmil' h1
 obtain⟨n1,n2⟩:=solve_norm (hO.cols S) hy' hmil' h1
 have hlen:=zLC h1
 obtain⟨P,hP⟩:=exq ((zAR (zAF (zAU M S) y) S.length).1)
 rw[<- hP]at h2 k1 hpos hv n1 n2 hlen⊢
 have hq:nrmQ P=zCD P S.length:=by unfold nrmQ;rw[hlen]
 -- spread
 have hL:((List.range S.length).map l).length=S.length:=by simp
 have hvL:∀i,i<S.length->vec ((List.range S.length).map l) i=l i:=fun i hi=>by unfold vec;rw[List.getElem?_map,List.getElem?_range hi];rfl
 have hin:∀i (hi:i<S.length),vec (zAQ (zAB M) S ((List.range S.length).map l) S.length) (S[i]).toNat=l i:=fun i hi=>by
  rw[zDG hS S.length (Nat.le_refl _) i hi hi]
  exact hvL i hi
 have hsum:∀r:Nat->Int,sm (fun i=>zEM S r i*l i) S.length=sm (fun c=>r c*vec (zAQ (zAB M) S ((List.range S.length).map l) S.length) c) (zAB M):=fun r=>by
  have:=zFY (l:=(List.range S.length).map l) hS r S.length (Nat.le_refl _)
  unfold dotS at this
  rw[this]
  exact zAH fun i hi=>by rw[hvL i hi]
 refine⟨hS,hlen,List.all_eq_true.2 fun r hr=>?_,h2,by rw[hq];exact n1,by rw[hq];exact n2,hr,vec (zAQ (zAB M) S ((List.range S.length).map l) S.length),D,⟨hD,fun q hq=>?_⟩,hD288,fun c hc hn=>zEK hS hn S.length (Nat.le_refl _),fun i hi=>by rw[hin i hi];exact k1 i hi,?_⟩
 ·obtain⟨i,hi,rfl⟩:=List.mem_iff_getElem.1 hr
  have:=hv i
  unfold zAD at this
  rw[List.getElem?_eq_getElem hi]at this
  exact this
 ·have:=k3.2 q (by rw[zBM];exact hq)
  rw[zGA,hsum]at this
  exact this
 ·rw[hq,zGY hD hpos S.length k1]
  congr 1
  have h:=hsum (fun c=>sgnI (vec (zAQ (zAB M) S ((List.range S.length).map l) S.length) c))
  have e1:sm (fun c=>sgnI (vec (zAQ (zAB M) S ((List.range S.length).map l) S.length) c)*vec (zAQ (zAB M) S ((List.range S.length).map l) S.length) c) (zAB M)=nrmI (vec (zAQ (zAB M) S ((List.range S.length).map l) S.length)) (zAB M):=zAH fun c _=>zIX _
  rw[e1]at h
  rw[<- h]
  refine zAH fun i hi=>?_
  have e3:zEM S (fun c=>sgnI (vec (zAQ (zAB M) S ((List.range S.length).map l) S.length) c)) i=sgnI (l i):=by
   unfold zEM;rw[List.getElem?_eq_getElem hi]
   simp only[]
   rw[hin i hi]
  rw[e3,zIX]
end
section
def negI(l:Nat->Int)(n:Nat):Int:=sm (fun j=>if l j<0 then-l j else 0) n
theorem lp_light{M:List (List Int)}{n:Nat}(hM:MaskOk M n){y:List Int}{l:Nat->Int}{D:Int}(hl:SolM M n y l D):
 ∃(k:Nat->Int) (E:Int),SolM M n y k E∧zEH (zAU M (zAT n k)) (zAT n k).length=(zAT n k).length∧(∀j,j<n->k j≠0->0<k j*l j)∧negI k n*D<=negI l n*E:=by
 obtain⟨k,E,h1,h2,h3,h4⟩:=lp_reduce hM (fun j=>if l j<0 then-1 else 0) _ l D rfl hl (fun c hc e he hs hn=>by
  have:∀j,j<n->(if l j<0 then(-1:Int)else 0)*(e*vec c j)<=0:=fun j hj=>by
   split
   ·rename_i q
    have h0:=hn j hj
    rcases Int.lt_or_le (e*vec c j) 0 with h|h
    ·have:=Int.mul_pos_of_neg_of_neg q h;omega
    ·omega
   ·simp
  have h5:=zMB n this
  rw[zDA]at h5
  exact h5)
 refine⟨k,E,h1,h2,h3,?_⟩
 have e1:sm (fun j=>(if l j<0 then(-1:Int)else 0)*k j) n=negI k n:=by
  unfold negI
  refine zAH fun j hj=>?_
  by_cases hk:k j=0
  ·rw[hk];simp
  ·have h5:=h3 j hj hk
   by_cases q:l j<0
   ·have:k j<0:=by
     apply Classical.byContradiction
     intro h6
     have:=Int.mul_nonpos_of_nonneg_of_nonpos (show 0<=k j by omega) (show l j<=0 by omega)
     omega
    rw[if_pos q,if_pos this];omega
   ·have:¬k j<0:=fun h6=>by
     have:=Int.mul_nonpos_of_nonpos_of_nonneg (show k j<=0 by omega) (show 0<=l j by omega)
     omega
    rw[if_neg q,if_neg this];simp
 have e2:sm (fun j=>(if l j<0 then(-1:Int)else 0)*l j) n=negI l n:=by
  unfold negI
  exact zAH fun j hj=>by split<;>omega
 rw[e1,e2]at h4
 exact h4
end
section
def zAV:List Int->List Int->Bool
 | [],[]=>false
 | [],_::_=>true
 |_::_,[]=>false
 |x::a,y::b=>if x=y then zAV a b else decide (x<y)
theorem zKN:∀a,zAV a a=false
 | []=>rfl
 |x::a=>by unfold zAV;rw[if_pos rfl];exact zKN a
theorem zDY:∀a b,a=b∨zAV a b=true∨zAV b a=true
 | [],[]=>.inl rfl
 | [],_::_=>.inr (.inl rfl)
 |_::_,[]=>.inr (.inr rfl)
 |x::a,y::b=>by
  by_cases e:x=y
  ·subst e
   rcases zDY a b with h|h|h
   ·exact .inl (by rw[h])
   ·exact .inr (.inl (by unfold zAV;rw[if_pos rfl];exact h))
   ·exact .inr (.inr (by unfold zAV;rw[if_pos rfl];exact h))
  ·rcases Int.lt_or_gt_of_ne e with h|h
   ·exact .inr (.inl (by unfold zAV;rw[if_neg e];simpa using h))
   ·exact .inr (.inr (by unfold zAV;rw[if_neg (fun h=>e h.symm)];simpa using h))
theorem zFN:∀{a b},zAV a b=true->zAV b a=false
 | [],[],h=>by cases h
 | [],_::_,_=>rfl
 |_::_,[],h=>by cases h
 |x::a,y::b,h=>by
  unfold zAV at h⊢
  by_cases e:x=y
  ·subst e;rw[if_pos rfl]at h⊢;exact zFN h
  ·rw[if_neg e]at h
   rw[if_neg (fun h=>e h.symm)]
   have:x<y:=by simpa using h
   rw[decide_eq_false_iff_not];omega
theorem zDN:∀{a b c},zAV a b=true->zAV b c=true->zAV a c=true
 | [],_,[],_,h=>by rename_i b _;cases b<;>cases h
 | [],_,_::_,_,_=>rfl
 |_::_,[],_,h,_=>by cases h
 |_::_,_::_,[],_,h=>by cases h
 |x::a,y::b,z::c,h1,h2=>by
  unfold zAV at h1 h2⊢
  by_cases e:x=y
  ·subst e
   rw[if_pos rfl]at h1
   by_cases e2:x=z
   ·subst e2;rw[if_pos rfl]at h2⊢;exact zDN h1 h2
   ·rw[if_neg e2]at h2⊢;exact h2
  ·rw[if_neg e]at h1
   have h1':x<y:=by simpa using h1
   by_cases e2:y=z
   ·subst e2;rw[if_neg e];exact h1
   ·rw[if_neg e2]at h2
    have h2':y<z:=by simpa using h2
    rw[if_neg (by omega)];simp;omega
def zBD(f:FitT):Rt:=zAZ (nrmQ f.2).1 (nrmQ f.2).2
def cmpF(r s:Rt):Int:=cmpR r.1 r.2 s.1 s.2
def stepC(s:Rt×List FitT)(f:FitT):Rt×List FitT:=
 if s.2=[]∨cmpF (zBD f) s.1<0 then(zBD f,[f])else if cmpF (zBD f) s.1=0 then(s.1,s.2++[f])else s
def zBA(l:List FitT):Rt×List FitT:=l.foldl stepC ((0,0),[])
theorem zHW(l:List FitT)(f:FitT):zBA (l++[f])=stepC (zBA l) f:=by unfold zBA;rw[List.foldl_append];rfl
theorem cmpF_pos{r s:Rt}(hr:0<r.2)(hs:0<s.2):cmpF r s=cmpI (r.1*s.2) (s.1*r.2):=by
 unfold cmpF cmpR dF;rw[if_neg (by omega),if_neg (by omega)]
theorem cmpF_neg{r s:Rt}(hr:0<r.2)(hs:0<s.2):cmpF r s<0↔r.1*s.2<s.1*r.2:=by
 rw[cmpF_pos hr hs];unfold cmpI;split<;>(try split)<;>omega
theorem cmpF_zero{r s:Rt}(hr:0<r.2)(hs:0<s.2):cmpF r s=0↔r.1*s.2=s.1*r.2:=by
 rw[cmpF_pos hr hs];unfold cmpI;split<;>(try split)<;>omega
theorem low_eq{r s:Rt}(hr:zAL r=true)(hs:zAL s=true)(h:r.1*s.2=s.1*r.2):r=s:=by
 obtain⟨r1,r2⟩:=r
 obtain⟨s1,s2⟩:=s
 obtain⟨a1,_,_,_,a5⟩:=zAY.1 hr
 obtain⟨b1,_,_,_,b5⟩:=zAY.1 hs
 simp only[]at*
 rw[<- zFF a5,<- zFF b5]
 exact zJS (by omega) (by omega) h
theorem zLD:∀(l:List FitT),(∀f∈l,zAL (zBD f)=true)->(l=[]->zBA l=((0,0),[]))∧(l≠[]->(zBA l).2≠[]∧(∃f∈l,(zBA l).1=zBD f)∧
 (∀f∈l,(zBA l).1.1*(zBD f).2<=(zBD f).1*(zBA l).1.2)∧(zBA l).2=l.filter (fun f=>decide (zBD f=(zBA l).1))):=by
 intro l
 induction hn:l.length generalizing l with
 |zero=>
  intro _
  have:l=[]:=List.length_eq_zero_iff.1 hn
  subst this
  exact⟨fun _=>rfl,fun h=>absurd rfl h⟩
 |succ n ih=>
  intro hv
  obtain⟨m,f,rfl⟩:∃m f,l=m++[f]:=⟨l.dropLast,l.getLast (by intro e;rw[e]at hn;simp at hn),(List.dropLast_concat_getLast _).symm⟩
  have hml:m.length=n:=by simpa using hn
  have hvm:∀g∈m,zAL (zBD g)=true:=fun g hg=>hv g (List.mem_append_left _ hg)
  have hvf:zAL (zBD f)=true:=hv f (by simp)
  have pf:0<(zBD f).2:=by have:=(zAY.1 hvf).1;omega
  obtain⟨i1,i2⟩:=ih m hml hvm
  refine⟨fun h=>by simp at h,fun _=>?_⟩
  rw[zHW]
  by_cases hm:m=[]
  ·subst hm
   have e:stepC (zBA []) f=(zBD f,[f]):=by unfold stepC;rw[if_pos (.inl rfl)]
   rw[List.nil_append,e]
   exact⟨by simp,⟨f,by simp,rfl⟩,fun g hg=>by rw[List.mem_singleton.1 hg];exact Int.le_refl _,by simp⟩
  ·obtain⟨j1,⟨g0,hg0,j2⟩,j3,j4⟩:=i2 hm
   have ps:0<(zBA m).1.2:=by rw[j2];have:=(zAY.1 (hvm g0 hg0)).1;omega
   have vs:zAL (zBA m).1=true:=by rw[j2];exact hvm g0 hg0
   unfold stepC
   by_cases c1:(zBA m).2=[]∨cmpF (zBD f) (zBA m).1<0
   ·rw[if_pos c1]
    have c2:(zBD f).1*(zBA m).1.2<(zBA m).1.1*(zBD f).2:=by
     rcases c1 with c|c
     ·exact absurd c j1
     ·exact(cmpF_neg pf ps).1 c
    have hlt:∀g∈m,(zBD f).1*(zBD g).2<(zBD g).1*(zBD f).2:=fun g hg=>by
     have h1:=j3 g hg
     have pg:0<(zBD g).2:=by have:=(zAY.1 (hvm g hg)).1;omega
     have e1:(zBD f).1*(zBA m).1.2*(zBD g).2<(zBA m).1.1*(zBD f).2*(zBD g).2:=Int.mul_lt_mul_of_pos_right c2 pg
     have e2:(zBA m).1.1*(zBD g).2*(zBD f).2<=(zBD g).1*(zBA m).1.2*(zBD f).2:=Int.mul_le_mul_of_nonneg_right h1 (by omega)
     have e3:(zBD f).1*(zBD g).2*(zBA m).1.2<(zBD g).1*(zBD f).2*(zBA m).1.2:=by
      have x1:(zBD f).1*(zBD g).2*(zBA m).1.2=(zBD f).1*(zBA m).1.2*(zBD g).2:=by grind
      have x2:(zBA m).1.1*(zBD f).2*(zBD g).2=(zBA m).1.1*(zBD g).2*(zBD f).2:=by grind
      have x3:(zBD g).1*(zBD f).2*(zBA m).1.2=(zBD g).1*(zBA m).1.2*(zBD f).2:=by grind
      omega
     exact Int.lt_of_mul_lt_mul_right e3 (by omega)
    refine⟨by simp,⟨f,by simp,rfl⟩,fun g hg=>?_,?_⟩
    ·rcases List.mem_append.1 hg with h|h
     ·exact Int.le_of_lt (hlt g h)
     ·rw[List.mem_singleton.1 h];exact Int.le_refl _
    ·rw[List.filter_append]
     have:m.filter (fun g=>decide (zBD g=zBD f))=[]:=by
      rw[List.filter_eq_nil_iff]
      intro g hg
      rw[decide_eq_true_eq]
      intro e
      have:=hlt g hg
      rw[e]at this
      omega
     show [f]=_
     rw[this];simp
   ·rw[if_neg c1]
    have c1':¬cmpF (zBD f) (zBA m).1<0:=fun h=>c1 (.inr h)
    have c3:(zBA m).1.1*(zBD f).2<=(zBD f).1*(zBA m).1.2:=by
     rcases Int.lt_or_le ((zBD f).1*(zBA m).1.2) ((zBA m).1.1*(zBD f).2)with h|h
     ·exact absurd ((cmpF_neg pf ps).2 h) c1'
     ·exact h
    have hle:∀g∈m++[f],(zBA m).1.1*(zBD g).2<=(zBD g).1*(zBA m).1.2:=fun g hg=>by
     rcases List.mem_append.1 hg with h|h
     ·exact j3 g h
     ·rw[List.mem_singleton.1 h];exact c3
    by_cases c2:cmpF (zBD f) (zBA m).1=0
    ·rw[if_pos c2]
     have e:zBD f=(zBA m).1:=low_eq hvf vs ((cmpF_zero pf ps).1 c2)
     refine⟨by simp,⟨g0,List.mem_append_left _ hg0,j2⟩,hle,?_⟩
     rw[List.filter_append,<- j4]
     simp[e]
    ·rw[if_neg c2]
     refine⟨j1,⟨g0,List.mem_append_left _ hg0,j2⟩,hle,?_⟩
     rw[List.filter_append,<- j4]
     have:¬zBD f=(zBA m).1:=fun e=>c2 ((cmpF_zero pf ps).2 (by rw[e]))
     simp[this]
def AscF(l:List FitT):Prop:=l.Pairwise (fun f g=>zAV f.1 g.1=true)
theorem asc_uniq{l m:List FitT}(hl:AscF l)(hm:AscF m)(h:l.Perm m):l=m:=
 List.Perm.eq_of_pairwise (fun a b _ _ h1 h2=>by rw[zFN h1]at h2;cases h2) hl hm h
def insC(f:FitT):List FitT->List FitT
 | []=>[f]
 |g::l=>if zAV f.1 g.1=true then f::g::l else g::insC f l
def zKT(l:List FitT):List FitT:=l.foldl (fun o f=>insC f o) []
theorem zKH(f:FitT):∀l,(insC f l).Perm (f::l)
 | []=>List.Perm.refl _
 |g::l=>by
  unfold insC
  split
  ·exact List.Perm.refl _
  ·exact((zKH f l).cons g).trans (List.Perm.swap f g l)
theorem insC_asc{f:FitT}:∀{l:List FitT},AscF l->(∀g∈l,g.1≠f.1)->AscF (insC f l)
 | [],_,_=>by unfold insC AscF;simp
 |g::l,h,hn=>by
  unfold AscF at h
  rw[List.pairwise_cons]at h
  unfold insC
  split
  ·rename_i c
   unfold AscF
   rw[List.pairwise_cons]
   refine⟨fun x hx=>?_,List.pairwise_cons.2 h⟩
   rcases List.mem_cons.1 hx with rfl|hx
   ·exact c
   ·exact zDN c (h.1 x hx)
  ·rename_i c
   have ih:=insC_asc (f:=f) h.2 (fun x hx=>hn x (by simp[hx]))
   unfold AscF
   rw[List.pairwise_cons]
   refine⟨fun x hx=>?_,ih⟩
   rcases List.mem_cons.1 ((zKH f l).mem_iff.1 hx)with rfl|hx
   ·rcases zDY x.1 g.1 with e|e|e
    ·exact absurd e.symm (hn g (by simp))
    ·exact absurd e c
    ·exact e
   ·exact h.1 x hx
theorem zHT:∀{l:List FitT},(l.map (·.1)).Nodup->AscF (zKT l)∧(zKT l).Perm l:=by
 intro l
 induction hn:l.length generalizing l with
 |zero=>
  intro _
  have:l=[]:=List.length_eq_zero_iff.1 hn
  subst this
  exact⟨List.Pairwise.nil,List.Perm.refl _⟩
 |succ n ih=>
  intro hd
  obtain⟨m,f,rfl⟩:∃m f,l=m++[f]:=⟨l.dropLast,l.getLast (by intro e;rw[e]at hn;simp at hn),(List.dropLast_concat_getLast _).symm⟩
  rw[List.map_append,List.nodup_append]at hd
  obtain⟨h1,h2⟩:=ih (by simpa using hn) hd.1
  have e:zKT (m++[f])=insC f (zKT m):=by unfold zKT;rw[List.foldl_append];rfl
  rw[e]
  refine⟨insC_asc h1 fun g hg e=>?_,(zKH f _).trans ((h2.cons f).trans (List.perm_append_singleton f m).symm)⟩
  have hg':=h2.mem_iff.1 hg
  exact hd.2.2 g.1 (List.mem_map.2 ⟨g,hg',rfl⟩) f.1 (by simp) e
def cornF(M:Mask)(y:List Int):List FitT:=zKT (zBA (zBT M y 10)).2
end
section
def valF(M:Mask)(y:List Int):Rt:=(zBA (zBT M y 10)).1
end
section
theorem all_pos{x:List Rt}(h:x.all zAL=true):∀k,0<(zAD x k).2:=fun k=>by
 unfold zAD
 cases e:x[k]? with
 |none=>decide
 |some r=>
  have:=List.all_eq_true.1 h r (List.mem_of_getElem? e)
  rw[zAY]at this
  simp only[Option.getD_some];omega
end
section
def zGF(f:FitT):Bool:=f.2.all fun r=>decide (0<=r.1)
def zDK(M:Mask)(y:List Int):List FitT:=(zBT M y 10).filter zGF
theorem zLH{M:Mask}{y:List Int}{f:FitT}:f∈zDK M y↔f∈zBT M y 10∧zGF f=true:=List.mem_filter
theorem sign_of{a b l d:Int}(hb:0<b)(hd:0<d)(h:a*b=l*d):(0<=a↔0<=l):=by
 constructor
 ·intro k
  apply Classical.byContradiction
  intro q
  have h1:0<=a*b:=Int.mul_nonneg k (by omega)
  have h2:l*d<0:=Int.mul_neg_of_neg_of_pos (by omega) hd
  omega
 ·intro k
  apply Classical.byContradiction
  intro q
  have h1:0<=l*d:=Int.mul_nonneg k (by omega)
  have h2:a*b<0:=Int.mul_neg_of_neg_of_pos (by omega) hb
  omega
theorem light_sol{M:Mask}{y:List Int}(hM:okM M=true)(hy:y.length=M.length)(hmil:milB y=true){f:FitT}(hf:f∈zBT M y 10):
 ∃(l:Nat->Int) (D:Int),SolM M (zAB M) y l D∧(∀i (hi:i<f.1.length),(zAD f.2 i).1*D=l (f.1[i]).toNat*(zAD f.2 i).2)∧(∀c,c<zAB M->(c:Int)∉f.1->l c=0)∧(zGF f=true↔∀j,j<zAB M->0<=l j):=by
 obtain⟨hS,hlen,hval,_,_,_,_,l,D,hl,_,h0,hv,_⟩:=zHU hM hy hmil hf
 refine⟨l,D,hl,hv,h0,?_⟩
 have hp:=all_pos hval
 have hD:=hl.1
 constructor
 ·intro hb j hj
  by_cases hm:(j:Int)∈f.1
  ·obtain⟨i,hi,e⟩:=List.mem_iff_getElem.1 hm
   have h1:=hv i hi
   rw[e]at h1
   have h2:0<=(zAD f.2 i).1:=by
    unfold zAD
    rw[List.getElem?_eq_getElem (show i<f.2.length by omega)]
    exact of_decide_eq_true (List.all_eq_true.1 hb _ (List.getElem_mem _))
   exact(sign_of hD (hp i) h1).1 h2
  ·rw[h0 j hj hm];exact Int.le_refl _
 ·intro hl0
  refine List.all_eq_true.2 fun r hr=>decide_eq_true ?_
  obtain⟨i,hi,rfl⟩:=List.mem_iff_getElem.1 hr
  have hi':i<f.1.length:=by omega
  have h1:=hv i hi'
  have e1:zAD f.2 i=f.2[i]:=by unfold zAD;rw[List.getElem?_eq_getElem hi];rfl
  have hb:=hS.2 _ (List.getElem_mem hi')
  rw[<- e1]
  exact(sign_of hD (hp i) h1).2 (hl0 _ (by omega))
theorem light_iff{M:Mask}{y:List Int}(hM:okM M=true)(hy:y.length=M.length)(hmil:milB y=true):zDK M y≠[]↔∃(l:Nat->Int) (D:Int),SolM M (zAB M) y l D∧∀j,j<zAB M->0<=l j:=by
 constructor
 ·intro h
  obtain⟨f,hf⟩:=List.exists_mem_of_ne_nil _ h
  obtain⟨hf1,hf2⟩:=zLH.1 hf
  obtain⟨l,D,hl,_,_,hb⟩:=light_sol hM hy hmil hf1
  exact⟨l,D,hl,hb.1 hf2⟩
 ·rintro⟨l,D,hl,h0⟩ e
  obtain⟨hO,_⟩:=zCY hM
  obtain⟨k,E,hk,hr,hs,_⟩:=lp_light hO hl
  obtain⟨f,hf,f1,f2,f3,fp,_⟩:=fit_of_sol hM hy hmil hk hr
  have:f∈zDK M y:=zLH.2 ⟨hf,List.all_eq_true.2 fun r hrr=>decide_eq_true (by
   obtain⟨i,hi,rfl⟩:=List.mem_iff_getElem.1 hrr
   have hi':i<f.1.length:=by omega
   have h1:=f3 i hi'
   have e1:zAD f.2 i=f.2[i]:=by unfold zAD;rw[List.getElem?_eq_getElem hi];rfl
   rw[<- e1]
   refine(sign_of hk.1 (fp i) h1).2 ?_
   have hb:=(zCV (zAB M) k).2 (f.1[i]) (by rw[<- f1];exact List.getElem_mem hi')
   rw[List.getElem?_eq_getElem hi',Option.getD_some]
   have hj:(f.1[i]).toNat<zAB M:=by omega
   by_cases hz:k (f.1[i]).toNat=0
   ·rw[hz];exact Int.le_refl _
   ·have h5:=hs _ hj hz
    apply Classical.byContradiction
    intro h6
    have:=Int.mul_nonpos_of_nonpos_of_nonneg (show k (f.1[i]).toNat<=0 by omega) (h0 _ hj)
    omega)⟩
  rw[e]at this
  cases this
end
section
open Go.RowKit
def FitC(W:World)(S:Nat->Prop)(us ur:Value)(f:FitT):Prop:=
 ∃pa pn pc va vn vc,us=.slice pa pn pc∧ur=.slice va vn vc∧f.1.length=pn∧f.2.length=vn∧pn<=maxLen∧vn<=maxLen∧zAE W pa f.1∧zBU W va f.2∧
  (∀b o,pa=some ⟨b,o,none⟩->S b∧b<W.heap.size∧∃c z,W.heap[b]? =some (.cells c 3 z))∧(∀b o,va=some ⟨b,o,none⟩->S b∧b<W.heap.size∧∃c z,W.heap[b]? =some (.cells c 29 z))
theorem FitC.keep{W W':World}{S S' K:Nat->Prop}{us ur:Value}{f:FitT}(h:FitC W S us ur f)(hk:Keep K W W')(hS:∀b,S b->b<W.heap.size->(∃c T z,(T=3∨T=29)∧W.heap[b]? =some (.cells c T z))->K b∧S' b):FitC W' S' us ur f:=by
 obtain⟨pa,pn,pc,va,vn,vc,e1,e2,h1,h2,h3,h4,h5,h6,h7,h8⟩:=h
 have s7:∀b o,pa=some ⟨b,o,none⟩->K b∧S' b:=fun b o e=>by obtain⟨g1,g2,c,z,g3⟩:=h7 b o e;exact hS b g1 g2 ⟨c,_,z,.inl rfl,g3⟩
 have s8:∀b o,va=some ⟨b,o,none⟩->K b∧S' b:=fun b o e=>by obtain⟨g1,g2,c,z,g3⟩:=h8 b o e;exact hS b g1 g2 ⟨c,_,z,.inr rfl,g3⟩
 refine⟨pa,pn,pc,va,vn,vc,e1,e2,h1,h2,h3,h4,fun j hj=>?_,fun j hj=>?_,fun b o e=>?_,fun b o e=>?_⟩
 ·obtain⟨b,o,e,hlt,hc⟩:=h5 j hj
  exact⟨b,o,e,Nat.lt_of_lt_of_le hlt hk.size,hk.cell hc (s7 b o e).1⟩
 ·obtain⟨b,o,e,hlt,hc,hd⟩:=h6 j hj
  exact⟨b,o,e,Nat.lt_of_lt_of_le hlt hk.size,hk.cell hc (s8 b o e).1,hk.cell hd (s8 b o e).1⟩
 ·obtain⟨g1,g2,c,z,g3⟩:=h7 b o e
  exact⟨(s7 b o e).2,Nat.lt_of_lt_of_le g2 hk.size,c,z,(hk.block b g2 (s7 b o e).1).trans g3⟩
 ·obtain⟨g1,g2,c,z,g3⟩:=h8 b o e
  exact⟨(s8 b o e).2,Nat.lt_of_lt_of_le g2 hk.size,c,z,(hk.block b g2 (s8 b o e).1).trans g3⟩
theorem FitC.elems{W:World}{S:Nat->Prop}{us ur:Value}{f:FitT}(h:FitC W S us ur f)(base:Nat):zEV 3 W base (fun _=>True) us f.1∧zEU W base ur f.2:=by
 obtain⟨pa,pn,pc,va,vn,vc,rfl,rfl,h1,h2,h3,h4,h5,h6,h7,h8⟩:=h
 refine⟨⟨pa,pn,pc,rfl,h1,h3,fun j hj=>?_⟩,⟨va,vn,vc,rfl,h2,h4,fun j hj=>?_⟩⟩
 ·obtain⟨b,o,e,hlt,hc⟩:=h5 j hj
  obtain⟨_,_,c,z,g⟩:=h7 b o e
  exact⟨b,o,e,trivial,hlt,.inr ⟨c,z,g⟩,hc⟩
 ·obtain⟨b,o,e,hlt,hc,hd⟩:=h6 j hj
  obtain⟨_,_,c,z,g⟩:=h8 b o e
  exact⟨b,o,e,hlt,.inr ⟨c,z,g⟩,hc,hd⟩
def zCB(W:World)(base:Nat)(S:Nat->Prop)(v:Value)(T:List FitT):Prop:=
 ∃xs,W.ownsRow base 73 2 v T.length xs∧(∀k,v.ownBlock=some k->S k)∧∀j (hj:j<T.length),∃us ur,xs[j*2]? =some us∧xs[j*2+1]? =some ur∧FitC W S us ur T[j]
theorem zCB.nil(W:World)(base:Nat)(S:Nat->Prop):zCB W base S (.slice none 0 0) []:=⟨[],World.ownsRow_nil _ _ _ _,fun k hk=>by simp[Value.ownBlock]at hk,fun j hj=>by simp at hj⟩
theorem zCB.slice{W:World}{base:Nat}{S:Nat->Prop}{v:Value}{T:List FitT}(h:zCB W base S v T):∃a c,v=.slice a T.length c:=by
 obtain⟨xs,ho,_⟩:=h;exact zAG ho
theorem zCB.keep{W W':World}{base:Nat}{S S' K:Nat->Prop}{v:Value}{T:List FitT}(h:zCB W base S v T)(hk:Keep K W W')(hS:∀b,S b->b<W.heap.size->K b∧S' b):zCB W' base S' v T:=by
 obtain⟨xs,ho,hg,he⟩:=h
 refine⟨xs,⟨ho.1,?_⟩,fun k hk'=>?_,fun j hj=>?_⟩
 ·rcases ho.2 with hn|⟨g,cap,cur,rfl,hb,hgg,rest⟩
  ·exact .inl hn
  ·have hlt:=(Array.getElem?_eq_some_iff.1 hgg).1
   exact .inr ⟨g,cap,cur,rfl,hb,(hk.block g hlt (hS g (hg g rfl) hlt).1).trans hgg,rest⟩
 ·rcases ho.2 with⟨rfl,_⟩|⟨g,cap,cur,rfl,hb,hgg,rest⟩
  ·simp[Value.ownBlock]at hk'
  ·obtain rfl:g=k:=by simpa[Value.ownBlock]using hk'
   exact(hS g (hg g rfl) (Array.getElem?_eq_some_iff.1 hgg).1).2
 ·obtain⟨us,ur,h1,h2,h3⟩:=he j hj
  exact⟨us,ur,h1,h2,h3.keep hk fun b hb hlt _=>hS b hb hlt⟩
theorem zCB.below{W W':World}{base:Nat}{S:Nat->Prop}{v:Value}{T:List FitT}(h:zCB W base S v T)(hb:Below W.heap.size W W'):zCB W' base S v T:=
 h.keep (Keep.of_below hb:Keep (fun _=>True) _ _) (fun _ h _=>⟨trivial,h⟩)
theorem zCB.fitsO{W:World}{base:Nat}{S:Nat->Prop}{v:Value}{T:List FitT}(h:zCB W base S v T):zIW W base v T:=by
 obtain⟨xs,ho,hg,he⟩:=h
 refine⟨xs,ho,fun j hj=>?_⟩
 obtain⟨us,ur,h1,h2,h3⟩:=he j hj
 exact⟨us,ur,h1,h2,(h3.elems base).1,(h3.elems base).2⟩
theorem zCB.snoc{W w1 w2:World}{base:Nat}{S:Nat->Prop}{v v' us ur:Value}{T:List FitT}{t:FitT}{xs:List Value}
 (ho:W.ownsRow base 73 2 v T.length xs)(he:∀j (hj:j<T.length),∃us ur,xs[j*2]? =some us∧xs[j*2+1]? =some ur∧FitC W S us ur T[j])(h1:FitC W S us ur t)
 (hW1:Below W.heap.size W w1)(hg:w1.grownBy w2 v.ownBlock)(ho':w2.ownsRow base 73 2 v' (T.length+1) (xs++[us,ur]))(hS':∀k,v'.ownBlock=some k->S k):zCB w2 base S v' (T++[t]):=by
 have hlen:xs.length=T.length*2:=ho.1
 have hk:Keep (fun b=>some b≠v.ownBlock) W w2:=(Keep.of_below hW1).trans (Keep.grown hg)
 have hel:∀us ur f,FitC W S us ur f->FitC w2 S us ur f:=fun us ur f h=>h.keep hk fun b hb hlt ⟨c,E,z,hE,hh⟩=>by
  refine⟨?_,hb⟩
  rcases ho.2 with⟨rfl,_⟩|⟨g,cap,cur,rfl,hbg,hgg,_⟩
  ·simp[Value.ownBlock]
  ·intro e
   obtain rfl:b=g:=by simpa[Value.ownBlock]using e
   rw[hh]at hgg
   cases hgg
   rcases hE with h|h
   ·exact absurd h (by decide)
   ·exact absurd h (by decide)
 refine⟨xs++[us,ur],by rw[List.length_append];exact ho',hS',fun j hj=>?_⟩
 by_cases e:j<T.length
 ·obtain⟨us',ur',k1,k2,k3⟩:=he j e
  refine⟨us',ur',by rw[List.getElem?_append_left (by omega)];exact k1,by rw[List.getElem?_append_left (by omega)];exact k2,?_⟩
  rw[List.getElem_append_left e];exact hel _ _ _ k3
 ·have:j=T.length:=by simp at hj;omega
  subst this
  refine⟨us,ur,by rw[List.getElem?_append_right (by omega),hlen];simp,by rw[List.getElem?_append_right (by omega),hlen,show T.length*2+1-T.length*2=1 by omega];rfl,?_⟩
  simp only[List.getElem_append_right (Nat.le_refl _),Nat.sub_self,List.getElem_cons_zero]
  exact hel _ _ _ h1
theorem FitV.fitC{lo:Nat}{S S':Nat->Prop}{f:FitT}{us ur:Value}{W:World}(h:FitV lo S f (.agg #[us,ur]) W)(hS:∀b,lo<=b->b<W.heap.size->¬S b->S' b):FitC W S' us ur f:=by
 obtain⟨pa,pn,pc,va,vn,vc,e,h1,h2,h3,h4,h5,h6,h7,h8⟩:=h
 simp only[Value.agg.injEq,Array.mk.injEq,List.cons.injEq,and_true]at e
 obtain⟨rfl,rfl⟩:=e
 refine⟨pa,pn,pc,va,vn,vc,rfl,rfl,h1,h2,h3,h4,h5,h6,fun b o e=>?_,fun b o e=>?_⟩
 ·obtain⟨g1,g2,g3,g4⟩:=h7 b o e
  exact⟨hS b g1 g2 g3,g2,g4⟩
 ·obtain⟨g1,g2,g3,g4⟩:=h8 b o e
  exact⟨hS b g1 g2 g3,g2,g4⟩
end
end Go.Proofs.YtlffndehhhpgjaaGreat
