/- Walks and plain laws for DualBrightRow, part 11. -/
import Derived.Maps.OwnIn
import Derived.Lib.AppendZeros
import Derived.Test.YtlffndehhhpgjaaGreatPkDualBrightRow10
namespace Go.Proofs.YtlffndehhhpgjaaGreat
set_option linter.unusedVariables false
set_option linter.unusedSimpArgs false
set_option maxRecDepth 100000
set_option maxHeartbeats 4000000
open _root_.List renaming getElem?_eq_getElem → yAA, getElem_mem → yAH, take_succ_eq_append_getElem → yAI, take_of_length_le → yAL, length_append → yAN, getElem?_append_left → yAO, getElem?_append_right → yAQ, length_map → yAS, all_eq_true → yAT, length_take → yAU, getElem?_map → yAZ, length_cons → yBB, append_nil → yBC, map_append → yBF, getElem_cons_zero → yBG, mem_map → yBJ, getElem_append_right → yBL, mem_of_getElem? → yBM, getElem_append_left → yBO, mem_cons → yBP, length_eq_zero_iff → yBT, getElem?_eq_some_iff → yBX, append_assoc → yBZ, length_nil → yCD, mem_range → yCH, filter_append → yCK, filterMap_append → yCS, mem_append → yCU, cons_append → yDG, nil_append → yDL, getElem_of_mem → yDQ, append_toArray → yDR, size_toArray → yED, push_toArray → yEF, length_filterMap_le → yEL, nodup_cons → yET, mem_filterMap → yFM, filterMap_nil → yFN, prefix_refl → yGF, filterMap_cons_some → yGN
open _root_.Nat renaming le_refl → yAC, le_trans → yAF, lt_of_lt_of_le → yAJ, zero_le → yAK, lt_or_ge → yAP, mul_le_mul → yAV, zero_add → yAW, one_pos → yBH, eq_zero_or_pos → yBR, sub_self → yCF, pow_le_pow_right → yCG, lt_succ_self → yEM, add_sub_cancel → yEY, le_of_lt → yFH, lt_succ_of_lt → yFR, le_of_eq → yGM
open _root_.Array renaming getElem?_eq_some_iff → yAB, getElem?_eq_none → yCW, replicate_zero → yDI, replicate_succ → yDJ, getElem?_eq_getElem → yDN
section
open Go.RowKit
attribute [local go_sem] Oper.semAt_some
theorem wide_regionK{P:Program}{ops:Array Oper}(T:Nat->World->Prop)(n:Nat){id:Nat}{a:Act}{w:World}{K:Act->World->Prop}{Q:Exit->Act->World->Prop}(hm:P.follows .mixedOrders=true)
 (h:AnyT P .any ops (Exit.then K (fun _ _ _=>False)) T ops.size (Array.replicate ops.size false) a w.drew):(Code.region id ops true).wpIn Fence.wide n P (Exit.then K Q) a w:=
 wpIn_mono (wide_region T n hm (fun⟨_,_,h⟩=>h) h) (by intro e a w h;cases e<;>first|exact h|exact h.elim)
theorem run_min3{P:Program}(u:Array TypeId)(t:TypeId)(x y z:Int)(w:World):(Builtin.min_ u t #[.int .i64 x,.int .i64 y,.int .i64 z]).run P w=.ok (.int .i64 (min (min x y) z)) w:=by
 have h1:Builtin.min_ u t #[.int .i64 x,.int .i64 y,.int .i64 z]=pure (.int .i64 (min (min x y) z)):=by
  unfold Builtin.min_
  simp only[List.foldlM,Builtin.min2,pure_bind]
  congr 2
  by_cases h:y<x
  ·rw[if_pos h];split<;>omega
  ·rw[if_neg h];split<;>omega
 rw[h1];rfl
structure FitsI (w0:World) (fp:Nat->Prop) (l:Nat) (J:(Nat->Prop)->List FitT->World->Prop) (lo:Nat) (pre:List FitT) (S:Nat->Prop) (hs:List Nat) (X:World):Prop where
 j:J S pre X
 s:∀k,S k->lo<=k
 y:S lo
 c:X.cell? ⟨lo,0,none⟩=some (.func (.yield l) #[] #[])
 f:∀k,fp k->k<lo∧X.heap[k]? =w0.heap[k]?
 z:lo<X.heap.size
 m:∀h∈hs,S h∧X.heap[h]? =some (.deferred (some []))
theorem FitsI.keep{w0:World}{fp:Nat->Prop}{l lo:Nat}{J:(Nat->Prop)->List FitT->World->Prop}{pre:List FitT}{S S':Nat->Prop}{hs:List Nat}{A B:World}
 (hJ:∀S S' s A B,J S s A->(∀k,S k->S' k)->(∀k,S' k->S k∨A.heap.size<=k)->Keep (fun k=>¬S' k) A B->J S' s B)
 (h:FitsI w0 fp l J lo pre S hs A)(h1:∀k,S k->S' k)(h2:∀k,S' k->S k∨A.heap.size<=k){T:Nat->Prop}(hk:Keep T A B)(hT:∀k,k<A.heap.size->¬S' k->T k)(hTl:T lo)(hTm:∀h∈hs,T h):
 FitsI w0 fp l J lo pre S' hs B where
 j:=hJ _ _ _ _ _ h.j h1 h2 ⟨hk.os,hk.tape,hk.output,hk.size,fun i hi hs=>hk.block i hi (hT i hi hs)⟩
 s:=fun k hk'=>by
  rcases h2 k hk' with h3|h3
  ·exact h.s k h3
  ·have:=h.z;omega
 y:=h1 _ h.y
 c:=hk.cell h.c hTl
 f:=fun k hk'=>by
  obtain⟨h3,h4⟩:=h.f k hk'
  refine⟨h3,(hk.block k (Nat.lt_trans h3 h.z) ?_).trans h4⟩
  refine hT k (Nat.lt_trans h3 h.z) fun h5=>?_
  rcases h2 k h5 with h6|h6
  ·have:=h.s k h6;omega
  ·have:=h.z;omega
 z:=yAJ h.z hk.size
 m:=fun q hq=>by
  obtain⟨h3,h4⟩:=h.m q hq
  exact⟨h1 _ h3,(hk.block q (yAB.1 h4).1 (hTm q hq)).trans h4⟩
theorem FitsI.step{w0:World}{fp:Nat->Prop}{l lo:Nat}{J J':(Nat->Prop)->List FitT->World->Prop}{pre pre':List FitT}{S:Nat->Prop}{hs:List Nat}{A B C:World}
 (h:FitsI w0 fp l J lo pre S hs A)(hS:∀k,S k->k<A.heap.size)(hb:Below A.heap.size A B)(hz:B.heap.size<=C.heap.size)(hk:∀k,fp k∨S k->C.heap[k]? =B.heap[k]?)(hj:J' S pre' C):FitsI w0 fp l J' lo pre' S hs C where
 j:=hj
 s:=h.s
 y:=h.y
 c:=(World.cell?_of_block (a:=⟨lo,0,none⟩) (hk lo (.inr h.y))).trans ((hb.cell (p:=⟨lo,0,none⟩) h.z).trans h.c)
 f:=fun k hk'=>by
  obtain⟨h3,h4⟩:=h.f k hk'
  exact⟨h3,(hk k (.inl hk')).trans ((hb.block k (Nat.lt_trans h3 h.z)).trans h4)⟩
 z:=yAJ h.z (yAF hb.size hz)
 m:=fun q hq=>by
  obtain⟨h3,h4⟩:=h.m q hq
  exact⟨h3,(hk q (.inr h3)).trans ((hb.block q (hS q h3)).trans h4)⟩
theorem zJS(M:Mask)(y:List Int)(W t:Nat):∀d,zBT M y W t <+: zBT M y W (t+d)
 |0=>yGF _
 |d+1=>by
  rw[show t+(d+1)=(t+d)+1 by omega,zCX]
  exact(zJS M y W t d).trans (List.prefix_append _ _)
theorem zPY{M:Mask}{y:List Int}{W t N:Nat}{pre:List (List Int)}(ht:t<N+1)(hp:pre <+: comb W t 0):
 zBT M y W t++pre.filterMap (fitF M y) <+: zBT M y W (N+1):=by
 obtain⟨r,hr⟩:=hp
 have h1:zBT M y W t++pre.filterMap (fitF M y) <+: zBT M y W (t+1):=by
  rw[zCX,<- hr,yCS]
  exact⟨r.filterMap (fitF M y),by rw[yBZ]⟩
 obtain⟨d,rfl⟩:∃d,N=t+d:=⟨N-t,by omega⟩
 exact h1.trans (by rw[show t+d+1=t+1+d by omega];exact zJS M y W (t+1) d)
theorem fitsTo_in{M:Mask}{y:List Int}{W t N:Nat}{pre:List (List Int)}{x:List Int}{f:FitT}(ht:t<N+1)(hp:pre++[x] <+: comb W t 0)(hf:fitF M y x=some f):
 (zBT M y W t++pre.filterMap (fitF M y))++[f] <+: zBT M y W (N+1):=by
 have e:(zBT M y W t++pre.filterMap (fitF M y))++[f]=zBT M y W t++(pre++[x]).filterMap (fitF M y):=by
  simp[yCS,hf]
 rw[e]
 exact zPY ht hp
theorem FitV.own{lo lo2:Nat}{S:Nat->Prop}{f:FitT}{v:Value}{A B:World}(h:FitV lo (fun _=>False) f v A)(hb:Below A.heap.size A B)(hl:lo2<=lo)(hS:∀q,S q->q<lo):FitV lo2 S f v B:=by
 obtain⟨pa,pn,pc,va,vn,vc,e,h1,h2,h3,h4,h5,h6,h7,h8⟩:=h
 refine⟨pa,pn,pc,va,vn,vc,e,h1,h2,h3,h4,h5.below hb,h6.below hb,fun b o e=>?_,fun b o e=>?_⟩
 ·obtain⟨g1,g2,_,c,z,g4⟩:=h7 b o e
  exact⟨yAF hl g1,yAJ g2 hb.size,fun h=>by have:=hS b h;omega,c,z,(hb.block b g2).trans g4⟩
 ·obtain⟨g1,g2,_,c,z,g4⟩:=h8 b o e
  exact⟨yAF hl g1,yAJ g2 hb.size,fun h=>by have:=hS b h;omega,c,z,(hb.block b g2).trans g4⟩
theorem fits_iter(w0:World)(fp:Nat->Prop)(k kb qb:Nat)(a a2:Option Addr)(n cap n2 cap2:Nat)(M:Mask)(y:List Int)(hn:M.length=n)(hn2:y.length=n2)(hm:n<=maxLen)(hm2:n2<=maxLen)(h1:1<=n)(hW:zAD M<=1000)(hk:k<=1000)
 (hfp:∀q,fp q->q<w0.heap.size)(hkb:fp kb)(hqb:fp qb)(hck:w0.cell? ⟨kb,0,none⟩=some (.int .i64 k))(hcq:w0.heap[qb]? =some (.cells #[.slice a n cap,.slice a2 n2 cap2] 216 (0,0)))
 (hR:∀X:World,w0.heap.size<=X.heap.size->(∀q,fp q->X.heap[q]? =w0.heap[q]?)->zAM X a M∧zAH X a2 y):
 IterS Tryz.prog 254 #[.pointer (some ⟨kb,0,none⟩),.pointer (some ⟨qb,0,none⟩)] FitV (zBZ M y k) fp w0:=by
 intro l J Jx W hb hJx hJ hY h0
 have hkW:kb<W.heap.size:=yAJ (hfp _ hkb) hb.size
 have hqW:qb<W.heap.size:=yAJ (hfp _ hqb) hb.size
 have hFW:∀q,fp q->W.heap[q]? =w0.heap[q]? :=fun q hq=>hb.block q (hfp q hq)
 have HJ:=hid hJ
 have HJx:=hid hJx
 have HY:=hid hY
 have H0:=hid h0
 have HFW:=hid hFW
 have HR:=hid hR
 have HFP:=hid hfp
 have HB:=hid hb
 have HK:=hid (show ∀X:World,(∀q,fp q->X.heap[q]? =w0.heap[q]?)->X.cell? ⟨kb,0,none⟩=some (.int .i64 k)from fun X hX=>(World.cell?_of_block (a:=⟨kb,0,none⟩) (hX kb hkb)).trans hck)
 have HQ:=hid (show ∀X:World,(∀q,fp q->X.heap[q]? =w0.heap[q]?)->X.heap[qb]? =some (.cells #[.slice a n cap,.slice a2 n2 cap2] 216 (0,0))from fun X hX=>(hX qb hqb).trans hcq)
 clear hJ hJx hY h0 hFW hck hcq hR hfp hb hkb hqb
 refine callsIn_of_wp_marks Tryz.func254 rfl trivial ?_ rfl
 simp only[Tryz.ntmps254,yED,yBB,yCD,Nat.reduceAdd,Nat.reduceSub,yDJ,yDI,yEF,yDR,yDL,yDG]
 gi_wp2
 obtain⟨w1,hw1⟩:=exq (W.alloc (.cells #[.func (.yield l) #[] #[]] 233))
 rw[<- hw1]
 have hs1:w1.heap.size=W.heap.size+1:=by rw[hw1];simp
 have hF1:∀q,fp q->w1.heap[q]? =w0.heap[q]? :=fun q hq=>by
  rw[hw1,Below.heap_alloc _ _ _ (yAJ (HFP.out q hq) HB.out.size)];exact HFW.out q hq
 have hc1:w1.cell? ⟨W.heap.size,0,none⟩=some (.func (.yield l) #[] #[]):=by rw[hw1,World.cell?_alloc_at _ _ _ _ rfl];rfl
 have HB1:=hid (show Below W.heap.size W w1 by rw[hw1];exact(Below.refl _ _).alloc (yAC _) _)
 obtain⟨w2,hw2⟩:=exq (w1.drew)
 have HF1:=hid hF1
 have HC1:=hid hc1
 have HS1:=hid hs1
 clear hs1 hF1 hc1
 refine wide_regionK (fun j w'=>decide (j<9)=true->(∀q,q<W.heap.size+1->w'.heap[q]? =w1.heap[q]?)∧W.heap.size+1<=w'.heap.size∧w'.cell? ⟨kb,0,none⟩=some (.int .i64 k)∧w'.cell? ⟨qb,0,none⟩=some (.slice a n cap)∧w'.cell? ⟨qb,1,none⟩=some (.slice a2 n2 cap2)) 0 (by kernel_rfl) ?_
 rw[<- hw2]
 have hF2:∀q,fp q->w2.heap[q]? =w0.heap[q]? :=fun q hq=>by rw[hw2];exact HF1.out q hq
 have HS:=hid (show ∀X:World,(∀q,q<W.heap.size+1->X.heap[q]? =w1.heap[q]?)->W.heap.size+1<=X.heap.size->(∀q,q<W.heap.size+1->X.heap[q]? =w1.heap[q]?)∧W.heap.size+1<=X.heap.size∧X.cell? ⟨kb,0,none⟩=some (.int .i64 k)∧X.cell? ⟨qb,0,none⟩=some (.slice a n cap)∧X.cell? ⟨qb,1,none⟩=some (.slice a2 n2 cap2)from fun X hX hs=>by
  have hF:∀q,fp q->X.heap[q]? =w0.heap[q]? :=fun q hq=>(hX q (by have:=HFP.out q hq;have:=HB.out.size;omega)).trans (HF1.out q hq)
  have hq:=HQ.out X hF
  exact⟨hX,hs,HK.out X hF,by simp[World.cell?,hq],by simp[World.cell?,hq]⟩)
 have h2:=HS.out w2 (fun q _=>by rw[hw2];rfl) (by rw[hw2];exact yGM HS1.out.symm)
 refine AnyT.tD (i:=0) (v:=.int .i64 k) rfl rfl (by rintro w' ⟨_,_,q5,q6,q7⟩;go_simp) h2 ?_;go_frame
 refine AnyT.tD (i:=1) (v:=.agg #[.slice a n cap,.slice a2 n2 cap2]) rfl rfl (by rintro w' ⟨_,_,q5,q6,q7⟩;go_simp) h2 ?_;go_frame
 refine AnyT.tD (i:=3) (v:=.pointer (some ⟨qb,0,none⟩)) rfl rfl (by rintro w' q5;go_simp) h2 ?_;go_frame
 refine AnyT.tD (i:=4) (v:=.slice a n cap) rfl rfl (by rintro w' ⟨_,_,q5,q6,q7⟩;go_simp) h2 ?_;go_frame
 refine AnyT.tD (i:=5) (v:=.int .i64 n) rfl rfl (by rintro w' q5;go_simp) h2 ?_;go_frame
 refine AnyT.tD (i:=8) (v:=.int .i64 0) rfl rfl (by rintro w' q5;go_simp) h2 ?_;go_frame
 refine AnyT.nx (i:=2) rfl ?_
 have HPX:=hid (fun(X:World) (h:zAM X a M)=>qpixels_c X a a2 n cap n2 cap2 M hn h1 h)
 have HR2:=hid (show zAM w2 a M from(HR.out w2 (yAF HB.out.size (yAF (Nat.le_succ _) h2.2.1)) hF2).1)
 have hB2:Below W.heap.size W w2:=by rw[hw2];exact HB1.out.drew
 clear hF2 hw2 hw1
 go_wp2_with (go_at_call 255;go_loud (refine(HPX.out w2 HR2.out).mono ?_;rintro e w3 ⟨rfl,hb3⟩;refine Stop.of ?_))
 refine Stop.go ?_
 have h3:=HS.out w3 (fun q hq=>(hb3.block q (yAJ hq h2.2.1)).trans (h2.1 q hq)) (yAF h2.2.1 hb3.size)
 go_wp2
 refine⟨fun _=>h3,?_⟩
 obtain⟨Wn,hWn⟩:=exq (zAD M)
 rw[<- hWn]at hW⊢
 obtain⟨N,hN⟩:∃N:Nat,N=min (min k Wn) n:=⟨_,rfl⟩
 have HN:=hid (show zBZ M y k=zBT M y Wn (N+1)by rw[hN,hWn,<- hn];rfl)
 have HWn:=hid hWn
 have hNc:min (min (k:Int) (Wn:Int)) (n:Int)=(N:Int):=by omega
 have HNC:=hid hNc
 have HN1:=hid (show N<=1000 by omega)
 clear hNc hN hWn
 refine AnyT.tD (i:=6) (v:=.int .i64 N) rfl rfl (by rintro w' hw';go_simp;rw[run_min3,HNC.out];rfl) h3 ?_;go_frame
 have HW9:=hid (show IntKind.i64.wrap ((N:Int)+1)=(N:Int)+1 from IntWalk.i64_in _ (by have:=HN1.out;omega))
 refine AnyT.tD (i:=7) (v:=.int .i64 ((N:Int)+1)) rfl rfl (by rintro w' hw';go_simp;exact HW9.out) h3 ?_;go_frame
 refine⟨by kernel_rfl,?_⟩
 have H3:=hid h3
 have HB3:=hid (zAA hB2 hb3)
 clear h2 h3 hB2 hb3
 gi_wp2
 obtain⟨I,hI⟩:∃I:Act->World->Prop,I=(fun a' X=>∃(u4 u5 u6 u7 u8 u9 u10 u11 u12 u13 u14 u17 u18 u19 u20 u21 u22 u23 u24 u25 u26 u27 u28 u29 u30 u31 u32 u33 u34 u35 u36 u37:Value),∃(t:Nat) (S:Nat->Prop) (hs:List Nat),t<=N+1∧FitsI w0 fp l J W.heap.size (zBT M y Wn t) S hs X∧(∀k,S k->k<X.heap.size)∧hs.Nodup∧
  a'=⟨#[.func (.yield l) #[] #[],.pointer (some ⟨kb,0,none⟩),.pointer (some ⟨qb,0,none⟩),.pointer (some ⟨W.heap.size,0,none⟩),u4,u5,u6,u7,u8,u9,u10,u11,u12,u13,u14,.int .i64 ((N:Int)+1),.int .i64 t,u17,u18,u19,u20,u21,u22,u23,u24,u25,u26,u27,u28,u29,u30,u31,u32,u33,u34,u35,u36,u37],markL hs⟩):=⟨_,rfl⟩
 have HI:=hid hI
 clear hI
 obtain⟨mu,hmu⟩:∃mu:Act->World->Nat,mu=(fun a' _=>N+1-(intOf (a'.tmps.getD 16 undef)).toNat):=⟨_,rfl⟩
 have HMU:=hid hmu
 clear hmu
 refine wpIn_loop I mu ?_ ?_
 ·rw[HI.out]
  refine⟨_,_,_,_,_,_,_,_,_,_,_,_,_,_,_,_,_,_,_,_,_,_,_,_,_,_,_,_,_,_,_,_,0,(fun q=>q=W.heap.size),[],yAK _,?_,?_,List.nodup_nil,rfl⟩
  ·refine⟨?_,?_,rfl,?_,?_,?_,?_⟩
   ·exact HJ.out _ _ _ _ _ H0.out (fun _ h=>h.elim) (fun q hq=>.inr (yGM (Eq.symm hq))) (Keep.of_below HB3.out)
   ·intro q hq;exact yGM (Eq.symm hq)
   ·exact(World.cell?_of_block (a:=⟨W.heap.size,0,none⟩) (H3.out.1 _ (yEM _))).trans HC1.out
   ·intro q hq
    have hql:=yAJ (HFP.out q hq) HB.out.size
    exact⟨hql,(H3.out.1 q (yFR hql)).trans (HF1.out q hq)⟩
   ·exact H3.out.2.1
   ·intro h hh;cases hh
  ·intro q hq;rw[hq];exact H3.out.2.1
 ·intro a' X hIX
  rw[HI.out]at hIX
  obtain⟨u4,hIX⟩:=hIX;obtain⟨u5,hIX⟩:=hIX;obtain⟨u6,hIX⟩:=hIX;obtain⟨u7,hIX⟩:=hIX;obtain⟨u8,hIX⟩:=hIX;obtain⟨u9,hIX⟩:=hIX;obtain⟨u10,hIX⟩:=hIX;obtain⟨u11,hIX⟩:=hIX;obtain⟨u12,hIX⟩:=hIX;obtain⟨u13,hIX⟩:=hIX;obtain⟨u14,hIX⟩:=hIX;obtain⟨u17,hIX⟩:=hIX;obtain⟨u18,hIX⟩:=hIX;obtain⟨u19,hIX⟩:=hIX;obtain⟨u20,hIX⟩:=hIX;obtain⟨u21,hIX⟩:=hIX;obtain⟨u22,hIX⟩:=hIX;obtain⟨u23,hIX⟩:=hIX;obtain⟨u24,hIX⟩:=hIX;obtain⟨u25,hIX⟩:=hIX;obtain⟨u26,hIX⟩:=hIX;obtain⟨u27,hIX⟩:=hIX;obtain⟨u28,hIX⟩:=hIX;obtain⟨u29,hIX⟩:=hIX;obtain⟨u30,hIX⟩:=hIX;obtain⟨u31,hIX⟩:=hIX;obtain⟨u32,hIX⟩:=hIX;obtain⟨u33,hIX⟩:=hIX;obtain⟨u34,hIX⟩:=hIX;obtain⟨u35,hIX⟩:=hIX;obtain⟨u36,hIX⟩:=hIX;obtain⟨u37,hIX⟩:=hIX
  obtain⟨t,S,hs,ht,hX,hSX,hnd,rfl⟩:=hIX
  have HX:=hid hX
  have HSX:=hid hSX
  have HND:=hid hnd
  by_cases hlt:t<N+1
  ·have hlt':(t:Int)<(N:Int)+1:=by omega
   have hXF:∀q,fp q->X.heap[q]? =w0.heap[q]? :=fun q hq=>(hX.f q hq).2
   have hXz:W.heap.size<X.heap.size:=hX.z
   have hq0:X.cell? ⟨qb,0,none⟩=some (.slice a n cap):=by have hq:=HQ.out X hXF;simp[World.cell?,hq]
   have hq1:X.cell? ⟨qb,1,none⟩=some (.slice a2 n2 cap2):=by have hq:=HQ.out X hXF;simp[World.cell?,hq]
   have HPQ:=hid (HPX.out X (HR.out X (yAF HB.out.size (yFH hXz)) hXF).1)
   clear hX hSX hnd hXF
   gi_wp2_with (refine⟨trivial,rfl,?_⟩;gi_at_call 255;refine(callsIn_wide.2 HPQ.out).mono ?_;rintro e Y ⟨rfl,hbY⟩;refine Stop.of ?_)
   refine Stop.go ?_
   rw[<- HWn.out]
   gi_wp2_with (refine⟨trivial,rfl,?_⟩;gi_at_call 178;refine(callsIn_wide.2 (sets_c _ _ _)).mono ?_;rintro e w' ⟨rfl,rfl⟩;refine Stop.of ?_)
   refine Stop.go ?_
   obtain⟨wL,hwL⟩:=exq ((Y.alloc (.cells #[.int .i64 Wn] 3)).alloc (.cells #[.int .i64 t] 3))
   have hsz:wL.heap.size=Y.heap.size+2:=by rw[hwL];simp
   have hbL:Below Y.heap.size Y wL:=by rw[hwL];exact((Below.refl _ Y).alloc (yAC _) _).alloc (by simp) _
   have hZ0:Boxed wL Y.heap.size 3 (.int .i64 Wn):=by rw[hwL];exact(Boxed.new Y 3 (.int .i64 (Wn:Int))).alloc _
   have hZ1:Boxed wL (Y.heap.size+1) 3 (.int .i64 (t:Int)):=by
    rw[hwL]
    have h1:=Boxed.new (Y.alloc (.cells #[.int .i64 (Wn:Int)] 3)) 3 (.int .i64 (t:Int))
    rwa [World.size_alloc]at h1
   have hF0:=hZ1.cell
   have hF1:=hZ0.cell
   rw[<- hwL]
   have hbXL:=zAA hbY hbL
   have HBXL:=hid hbXL
   have HSZ:=hid hsz
   have hXY:=hbY.size
   have HXY:=hid hXY
   clear hwL hq0 hq1 hZ0 hZ1 hbXL hbY
   have ht1k:t<=1000:=by have:=HN1.out;omega
   gi_wp2
   obtain⟨T,hT⟩:∃T:(Nat->Prop)->Nat->Prop,T=fun Sr q=>S q∨q=Y.heap.size∨q=Y.heap.size+1∨q=wL.heap.size∨q=wL.heap.size+1∨Sr q:=⟨_,rfl⟩
   refine range_s (gf:=222) (lb:=#[.pointer (some ⟨Y.heap.size+1,0,none⟩),.pointer (some ⟨Y.heap.size,0,none⟩)]) (xs:=comb Wn t 0) (fp:=fun k=>k=Y.heap.size+1∨k=Y.heap.size) (V:=SetV) rfl (enters_of Tryz.func222 (by kernel_rfl) rfl)
    (iter_setsS wL Wn t (Y.heap.size+1) Y.heap.size hW ht1k (by omega) (by omega) hF0 hF1) (Below.refl _ _) (by intro k hk;omega)
    (fun Sr pre Z=>FitsI w0 fp l J W.heap.size (zBT M y Wn t++pre.filterMap (fitF M y)) (T Sr) hs Z)
    (fun Sr c pre Z=>c=.ret∧FitsI w0 fp l Jx W.heap.size (zBT M y Wn t++pre.filterMap (fitF M y)) (T Sr) hs Z) ?hI ?hIx ?hV ?h0 (fun v a' Z=>a'={tmps:=#[.func (.yield l) #[] #[],.pointer (some ⟨kb,0,none⟩),.pointer (some ⟨qb,0,none⟩),.pointer (some ⟨W.heap.size,0,none⟩),.int .i64 t,v,u6,u7,u8,u9,u10,u11,u12,u13,u14,.int .i64 ((N:Int)+1),.int .i64 t,.bool true,.int .i64 t,.agg #[.slice a n cap,.slice a2 n2 cap2],.int .i64 Wn,.int .i64 t,.func (.func 222) #[] #[.pointer (some ⟨Y.heap.size+1,0,none⟩),.pointer (some ⟨Y.heap.size,0,none⟩)],v,u24,u25,u26,u27,u28,u29,u30,u31,u32,u33,u34,u35,u36,u37],defers:=[]}) ?hAx ?hassign ?hbody ?hdone ?hstop
   case hI=>
    intro Sr Sr' s A B hIA h1 h2 h3 h4 hk
    refine hIA.keep HJ.out ?_ ?_ hk ?_ ?_ ?_
    ·rw[hT];rintro q (h|h|h|h|h|h)<;>simp[h,h1]
    ·rw[hT];rintro q (h|h|h|h|h|h)
     ·exact .inl (.inl h)
     ·exact .inl (.inr (.inl h))
     ·exact .inl (.inr (.inr (.inl h)))
     ·exact .inl (.inr (.inr (.inr (.inl h))))
     ·exact .inl (.inr (.inr (.inr (.inr (.inl h)))))
     ·rcases h2 q h with h|h
      ·exact .inl (.inr (.inr (.inr (.inr (.inr h)))))
      ·exact .inr h
    ·rw[hT];intro q _ hq;simp only[not_or]at hq;exact⟨hq.2.2.2.1,hq.2.2.2.2.1,hq.2.2.2.2.2⟩
    ·exact⟨by omega,by omega,fun h=>by have:=h3 _ h;omega⟩
    ·intro q hq
     have:=HSX.out q (HX.out.m q hq).1
     exact⟨by omega,by omega,fun h=>by have:=h3 _ h;omega⟩
   case hIx=>
    rintro Sr Sr' c s A B ⟨hc,hIA⟩ h1 h2 h3 h4 hk
    refine⟨hc,hIA.keep HJx.out ?_ ?_ hk ?_ ?_ ?_⟩
    ·rw[hT];rintro q (h|h|h|h|h|h)<;>simp[h,h1]
    ·rw[hT];rintro q (h|h|h|h|h|h)
     ·exact .inl (.inl h)
     ·exact .inl (.inr (.inl h))
     ·exact .inl (.inr (.inr (.inl h)))
     ·exact .inl (.inr (.inr (.inr (.inl h))))
     ·exact .inl (.inr (.inr (.inr (.inr (.inl h)))))
     ·rcases h2 q h with h|h
      ·exact .inl (.inr (.inr (.inr (.inr (.inr h)))))
      ·exact .inr h
    ·rw[hT];intro q _ hq;simp only[not_or]at hq;exact⟨hq.2.2.2.1,hq.2.2.2.2.1,hq.2.2.2.2.2⟩
    ·exact⟨by omega,by omega,fun h=>by have:=h3 _ h;omega⟩
    ·intro q hq
     have:=HSX.out q (HX.out.m q hq).1
     exact⟨by omega,by omega,fun h=>by have:=h3 _ h;omega⟩
   case hV=>
    intro Sr x v A B hv hk
    exact hv.keep hk (fun k hk=>⟨by omega,by omega⟩)
   case h0=>
    intro Z hk hZ
    rw[yFN,yBC]
    refine HX.out.keep HJ.out ?_ ?_ ((Keep.of_below HBXL.out).trans hk) ?_ ?_ ?_
    ·rw[hT];intro q h;simp[h]
    ·rw[hT];rintro q (h|h|h|h|h|h)
     ·exact .inl h
     ·exact .inr (by omega)
     ·exact .inr (by omega)
     ·exact .inr (by omega)
     ·exact .inr (by omega)
     ·exact h.elim
    ·intro q hq _;omega
    ·omega
    ·intro q hq
     have:=HSX.out q (HX.out.m q hq).1
     omega
   case hAx=>
    intro v a' A B h _;exact h
   case hassign=>
    intro l' Sr x v Z K hZ hv hK
    gi_wp2
    exact hK _ _ (Below.refl _ _) rfl
   case hbody=>
    rintro l' Sr pre x v _ Z hpre hSr hIZ hv rfl hZ _ _
    obtain⟨xa,xc,rfl,hxi,hxb⟩:=hv
    have hxm:x∈comb Wn t 0:=hpre.subset (by simp)
    have hxl:x.length=t:=zCG _ _ _ x hxm
    have hZF:∀q,fp q->Z.heap[q]? =w0.heap[q]? :=fun q hq=>(hIZ.f q hq).2
    have hZz:W.heap.size<Z.heap.size:=hIZ.z
    have hzq0:Z.cell? ⟨qb,0,none⟩=some (.slice a n cap):=by have hq:=HQ.out Z hZF;simp[World.cell?,hq]
    have hzq1:Z.cell? ⟨qb,1,none⟩=some (.slice a2 n2 cap2):=by have hq:=HQ.out Z hZF;simp[World.cell?,hq]
    have hzy:Z.cell? ⟨W.heap.size,0,none⟩=some (.func (.yield l) #[] #[]):=hIZ.c
    obtain⟨hRZ,hIY⟩:=HR.out Z (yAF HB.out.size (yFH hZz)) hZF
    have HFIT:=hid (fit_c Z a a2 xa n cap n2 cap2 x.length xc M y x hn hn2 rfl hm hm2 (by rw[hxl];exact ht1k) hRZ hIY hxi)
    have HIZ:=hid hIZ
    have HT:=hid hT
    have HSR:=hid hSr
    have HPRE:=hid hpre
    have hYs:=hbL.size
    have HTB:=hid (show ∀q,T Sr q->q<Z.heap.size by
     rw[hT];rintro q (h|h|h|h|h|h)
     ·have:=HSX.out q h;omega
     ·omega
     ·omega
     ·omega
     ·omega
     ·exact(hSr q h).2)
    clear hYs
    have hqZ:qb<Z.heap.size:=World.block_lt_of_cell? Z ⟨qb,0,none⟩ hzq0
    clear hRZ hIY hIZ hT hSr hpre hxm hxl hZF hxi hxb hF0 hF1
    cases hF:fitF M y x with
    |none=>
     rw[hF]at HFIT
     have HF:=hid hF
     clear hF
     gi_wp2_with (refine⟨trivial,rfl,?_⟩;gi_at_call 256;refine(CallsIn.inRound l' (callsIn_wide.2 HFIT.out)).mono ?_;rintro e Z2 ⟨⟨_,rfl⟩|⟨f,fv,hso,_⟩,hb2⟩;rotate_left;cases hso;refine Stop.of ?_)
     refine Stop.go ?_
     gi_wp2
     refine⟨fun _ h=>(by cases h),?_⟩
     gi_wp2
     have hbF:=zAA hb2 ((Below.refl Z2.heap.size Z2).alloc (yAC _) (.cells #[.slice none 0 0,.slice none 0 0] 73))
     refine⟨hbF.size,fun q hq=>hbF.block q (HTB.out q (by rw[HT.out];exact .inr (by rcases hq with (hq|hq)|hq|hq|hq<;>simp[hq]))),?_⟩
     show FitsI w0 fp l J W.heap.size (zBT M y Wn t++(pre++[x]).filterMap (fitF M y)) (T Sr) hs _
     rw[yCS,List.filterMap_cons_none HF.out,yFN,yBC]
     exact HIZ.out.keep HJ.out (fun _ h=>h) (fun _ h=>.inl h) (Keep.of_below hbF:Keep (fun _=>True) Z _) (fun _ _ _=>trivial) trivial (fun _ _=>trivial)
    |some f=>
     rw[hF]at HFIT
     have HF:=hid hF
     clear hF
     gi_wp2_with (refine⟨trivial,rfl,?_⟩;gi_at_call 256;refine(CallsIn.inRound l' (callsIn_wide.2 HFIT.out)).mono ?_;rintro e Z2 ⟨⟨hno,_⟩|⟨f',fv,hso,rfl,hfv⟩,hb2⟩;cases hno;refine Stop.of ?_)
     refine Stop.go ?_
     obtain rfl:f=f':=by cases hso;rfl
     clear hso
     have HFV:=hid hfv
     obtain⟨pa,pn,pc,va,vn,vc,rfl,_,_,_,_,_,_,_,_⟩:=hfv
     have hy2:Z2.cell? ⟨W.heap.size,0,none⟩=some (.func (.yield l) #[] #[]):=(hb2.cell (p:=⟨W.heap.size,0,none⟩) hZz).trans hzy
     have hyl:W.heap.size<Z2.heap.size:=yAJ hZz hb2.size
     have hb3:=zAA hb2 ((Below.refl Z2.heap.size Z2).alloc (yAC _) (.cells #[.slice pa pn pc,.slice va vn vc] 73))
     have hyk:=HY.out (T Sr) (zBT M y Wn t++pre.filterMap (fitF M y)) f (.agg #[.slice pa pn pc,.slice va vn vc]) (Z2.alloc (.cells #[.slice pa pn pc,.slice va vn vc] 73))
      (by rw[HN.out];exact fitsTo_in hlt HPRE.out HF.out) (fun q hq=>⟨HIZ.out.s q hq,yAJ (HTB.out q hq) hb3.size⟩) (yAF (yFH hZz) hb3.size)
      (HJ.out _ _ _ _ _ HIZ.out.j (fun _ h=>h) (fun _ h=>.inl h) (Keep.of_below hb3)) (HFV.out.own ((Below.refl _ _).alloc (yAC _) _) (yFH hZz) HTB.out)
     have HB3':=hid hb3
     clear hb2 hb3
     obtain⟨fn,tmps,assign,body,hy,hR'⟩:=hyk
     gi_wp2
     refine⟨rfl,hR'.mono ?_⟩
     clear hR' hy
     rintro e W3 ⟨⟨hs3,hk3⟩,⟨rfl,hJ3⟩|⟨rfl,hJ3⟩⟩
     ·gi_wp2
      refine⟨yAF HB3'.out.size hs3,fun q hq=>?_,?_⟩
      ·have hq':T Sr q:=by rw[HT.out];exact .inr (by rcases hq with (hq|hq)|hq|hq|hq<;>simp[hq])
       exact(hk3 q (.inr hq')).trans (HB3'.out.block q (HTB.out q hq'))
      ·show FitsI w0 fp l J W.heap.size (zBT M y Wn t++(pre++[x]).filterMap (fitF M y)) (T Sr) hs _
       rw[yCS,yGN HF.out,yFN,<- yBZ]
       exact HIZ.out.step HTB.out HB3'.out hs3 hk3 hJ3
     ·gi_wp2
      refine⟨yAF HB3'.out.size hs3,fun q hq=>?_,rfl,?_⟩
      ·have hq':T Sr q:=by rw[HT.out];exact .inr (by rcases hq with (hq|hq)|hq|hq|hq<;>simp[hq])
       exact(hk3 q (.inr hq')).trans (HB3'.out.block q (HTB.out q hq'))
      ·show FitsI w0 fp l Jx W.heap.size (zBT M y Wn t++(pre++[x]).filterMap (fitF M y)) (T Sr) hs _
       rw[yCS,yGN HF.out,yFN,<- yBZ]
       exact HIZ.out.step HTB.out HB3'.out hs3 hk3 hJ3
   case hdone=>
    intro Sr Z hZ hSr hIZ hmk
    have HIZ:=hid hIZ
    have HSR:=hid hSr
    have HMK:=hid hmk
    have HT:=hid hT
    have hYs:=hbL.size
    have HTB:=hid (show ∀q,T Sr q->q<Z.heap.size by
     rw[hT];rintro q (h|h|h|h|h|h)
     ·have:=HSX.out q h;omega
     ·omega
     ·omega
     ·omega
     ·omega
     ·exact(hSr q h).2)
    have HNN:=hid (show wL.heap.size∉hs from fun h=>by have:=HSX.out _ (HX.out.m _ h).1;omega)
    clear hIZ hSr hmk hT hF0 hF1 hYs
    gi_wp2
    rw[HI.out,HMU.out]
    refine⟨⟨_,_,_,_,_,_,_,_,_,_,_,_,_,_,_,_,_,_,_,_,_,_,_,_,_,_,_,_,_,_,_,_,t+1,T Sr,wL.heap.size::hs,hlt,?_,HTB.out,yET.2 ⟨HNN.out,HND.out⟩,by first|rfl| (rw[cast1 t];rfl)⟩,?_⟩
    ·rw[zCX]
     refine⟨HIZ.out.j,HIZ.out.s,HIZ.out.y,HIZ.out.c,HIZ.out.f,HIZ.out.z,fun q hq=>?_⟩
     rcases yBP.1 hq with rfl|hq
     ·exact⟨by rw[HT.out];simp,HMK.out⟩
     ·exact HIZ.out.m q hq
    ·show N+1-(intOf (.int .i64 ((t:Int)+1))).toNat<N+1-(intOf (.int .i64 (t:Int))).toNat
     simp only[intOf];omega
   case hstop=>
    rintro Sr c pre Z hpre hSr ⟨rfl,hIZ⟩ hmk
    have HIZ:=hid hIZ
    have HMK:=hid hmk
    have HT:=hid hT
    have HPRE:=hid hpre
    have HNN:=hid (show wL.heap.size∉hs from fun h=>by have:=HSX.out _ (HX.out.m _ h).1;have:=hbL.size;omega)
    clear hIZ hSr hmk hT hF0 hF1 hpre
    gi_wp2
    refine zFF (wL.heap.size::hs) Z (yET.2 ⟨HNN.out,HND.out⟩) (fun h hh=>?_) fun w' hk=>?_
    ·rcases yBP.1 hh with rfl|hh
     ·exact HMK.out
     ·exact(HIZ.out.m h hh).2
    ·refine⟨_,results_none rfl _ _ _,⟨_,rfl⟩,.inr ⟨T Sr,_,?_,HJx.out _ _ _ _ _ HIZ.out.j (fun _ h=>h) (fun _ h=>.inl h) (hk.mono fun q hq hh=>?_)⟩⟩
     ·rw[HN.out]
      exact zPY hlt HPRE.out
     ·rcases yBP.1 hh with rfl|hh
      ·exact hq (by rw[HT.out];simp)
      ·exact hq (HIZ.out.m q hh).1
  ·obtain rfl:t=N+1:=by omega
   clear hX hSX hnd
   gi_wp2
   refine zFF hs X HND.out (fun h hh=>(HX.out.m h hh).2) fun w' hk=>?_
   refine⟨_,results_none rfl _ _ _,⟨_,rfl⟩,.inl ⟨S,fun q hq=>⟨HX.out.s q hq,yAJ (HSX.out q hq) hk.size⟩,?_⟩⟩
   rw[HN.out]
   exact HJ.out _ _ _ _ _ HX.out.j (fun _ h=>h) (fun _ h=>.inl h) (hk.mono fun q hq hh=>hq (HX.out.m q hh).1)
end
section
open Go.RowKit
theorem qfits_c(w:World)(a a2:Option Addr)(n cap n2 cap2:Nat)(k:Int):
 Calls Tryz.prog 234 #[.agg #[.slice a n cap,.slice a2 n2 cap2],.int .i64 k] w fun e w'=>
  e=.returned (.func (.func 254) #[] #[.pointer (some ⟨w.heap.size+1,0,none⟩),.pointer (some ⟨w.heap.size,0,none⟩)])∧
  w'=(w.alloc (.cells #[.slice a n cap,.slice a2 n2 cap2] 216)).alloc (.cells #[.int .i64 k] 3):=by
 have hmf:∀(fn:Fn) (first cap:Array Value) (w:World),(Instr.makeFunc fn first cap).run Tryz.prog w=.ok (.func fn first cap) w:=fun _ _ _ _=>rfl
 go_enter Tryz.func234,Tryz.ntmps234
 go_wp2
 go_ret
 exact⟨rfl,rfl⟩
def zGV(M:Mask)(y:List Int)(k:Int):Int:=if zAV M y []=0 then(if inB k 0 10=true then 0 else 7)else zAV M y []
theorem counted_c(w:World)(a a2:Option Addr)(n cap n2 cap2:Nat)(M:Mask)(y:List Int)(k:Int)(hn:M.length=n)(hn2:y.length=n2)(hm:n<=maxLen)(hm2:n2<=maxLen)(H:zAM w a M)(H2:zAH w a2 y):
 Calls Tryz.prog 232 #[.slice a n cap,.slice a2 n2 cap2,.int .i64 k] w fun e w'=>e=.returned (.int .i64 (zGV M y k))∧Below w.heap.size w w':=by
 have HC:=hid (zLC w a a2 none n cap n2 cap2 0 0 M y [] hn hn2 rfl hm hm2 (by decide) H H2 (fun j hj=>by simp at hj))
 have HW:=hid (fun X=>zNE k 0 10 X)
 obtain⟨E,hE⟩:=exq (zAV M y [])
 obtain⟨b,hb⟩:=exq (inB k 0 10)
 have hP:zGV M y k=if E=0 then(if b=true then 0 else 7)else E:=by rw[hE,hb];rfl
 rw[<- hE]at HC
 rw[<- hb]at HW
 rw[hP]
 clear hE hb hP hn hn2 H H2
 go_enter Tryz.func232,Tryz.ntmps232
 by_cases h0:E=0
 ·subst h0
  cases b
  all_goals
   go_wp2_with first
    | (go_at_call 101;refine HC.out.mono ?_;rintro e w1 ⟨rfl,hb1⟩)
    | (go_at_call 88;refine(HW.out _).mono ?_;rintro e w2 ⟨rfl,rfl⟩)
   go_ret
   exact⟨rfl,hb1⟩
 ·have hne:(E !=0)=true:=by simp[h0]
  rw[if_neg h0]
  clear h0
  go_wp2_with (go_at_call 101;refine HC.out.mono ?_;rintro e w1 ⟨rfl,hb1⟩)
  go_ret
  exact⟨rfl,hb1⟩
end
section
open Go.RowKit
attribute [local go_sem] Oper.semAt_some
theorem AnyT.takeDN{P:Program}{md:Region.Mode}{ops:Array Oper}{Q:Exit->Act->World->Prop}{S:World->Prop}{i d:Nat}{oi:Oper}{fuel:Nat}{listed:Array Bool}{a:Act}{w:World}{Wf:Nat->Bool}(hi:ops[i]? =some oi)(hd:oi.dst=some d)
 (hs:Region.noSelect ops=true)(hf:Region.free md ops listed i=true)(hr:(Region.ready md ops listed).contains i=true)
 (hQ:∀c a w,Q (.panic c) (a.put (some d) undef) w->Q (.panic c) a w)
 (hW:(List.range ops.size).all (fun j=>waits md ops i j||Wf j)=true)(hw:Region.wanted oi (yielded ops a.tmps)=false)(hS:S w)
 (h:AnyT P md ops Q (fun j w=>Wf j=true->S w) fuel (listed.setIfInBounds i true) (a.put (some d) undef) w):AnyT P md ops Q (fun j w=>Wf j=true->S w) (fuel+1) listed a w:=
 AnyT.take (v:=undef) hi hs hf hr (by rw[hd];exact hQ) (fun j hj w hT=>hT (by
  by_cases e:j<ops.size
  ·have:=yAT.1 hW j (yCH.2 e)
   rw[hj]at this;simpa using this
  ·unfold waits at hj;rw[yCW (by omega)]at hj;cases hj)) (fun w hS _=>hS) (.inr ⟨hw,rfl⟩) hS (by rw[hd];exact h)
theorem zPI{R:List (List Int)}{n:Nat}(h:(zAX R n).2=0):(zAX R n).1.length=n:=by
 unfold zAX at h⊢
 simp only[]at h⊢
 split
 ·rename_i h1;rw[if_pos h1]at h;simp at h
 ·rename_i h1
  rw[if_neg h1]at h
  split
  ·rename_i h2;rw[if_pos h2]at h;simp at h
  ·simp
theorem fitF_len{M:Mask}{y S:List Int}{f:FitT}(h:fitF M y S=some f):f.1=S∧f.2.length=S.length:=by
 obtain⟨e,h0,_⟩:=zMJ h
 rw[e]
 refine⟨rfl,?_⟩
 show(zCC M S y).1.length=S.length
 unfold zCC at h0⊢
 split
 ·rename_i hc
  rw[if_pos hc]at h0
  exact zPI h0
 ·rename_i hc
  rw[if_neg hc]at h0
  exact absurd h0 hc
theorem FitV.keep{lo:Nat}{S:Nat->Prop}{x:FitT}{v:Value}{A B:World}{T:Nat->Prop}(h:FitV lo S x v A)(hk:Keep T A B)(hT:∀k,lo<=k->T k):FitV lo S x v B:=by
 obtain⟨pa,pn,pc,va,vn,vc,e,h1,h2,h3,h4,h5,h6,h7,h8⟩:=h
 refine⟨pa,pn,pc,va,vn,vc,e,h1,h2,h3,h4,fun j hj=>?_,fun j hj=>?_,fun b o e=>?_,fun b o e=>?_⟩
 ·obtain⟨b,o,e2,hlt,hc⟩:=h5 j hj
  exact⟨b,o,e2,yAJ hlt hk.size,hk.cell hc (hT b (h7 b o e2).1)⟩
 ·obtain⟨b,o,e2,hlt,hc,hd⟩:=h6 j hj
  exact⟨b,o,e2,yAJ hlt hk.size,hk.cell hc (hT b (h8 b o e2).1),hk.cell hd (hT b (h8 b o e2).1)⟩
 ·obtain⟨g1,g2,g3,c,z,g4⟩:=h7 b o e
  exact⟨g1,yAJ g2 hk.size,g3,c,z,(hk.block b g2 (hT b g1)).trans g4⟩
 ·obtain⟨g1,g2,g3,c,z,g4⟩:=h8 b o e
  exact⟨g1,yAJ g2 hk.size,g3,c,z,(hk.block b g2 (hT b g1)).trans g4⟩
theorem cell_blk{W W':World}{b o:Nat}{v:Value}(h:W.cell? ⟨b,o,none⟩=some v)(hk:W'.heap[b]? =W.heap[b]?):W'.cell? ⟨b,o,none⟩=some v:=
 (World.cell?_of_block (a:=⟨b,o,none⟩) hk).trans h
theorem lt_blk{W W':World}{b:Nat}(h:b<W.heap.size)(hk:W'.heap[b]? =W.heap[b]?):b<W'.heap.size:=by
 rcases yAP b W'.heap.size with h'|h'
 ·exact h'
 ·rw[yCW h',yDN h]at hk;cases hk
theorem zAH.blk{W W':World}{a:Option Addr}{l:List Int}(h:zAH W a l)(hk:∀k,k<W.heap.size->W'.heap[k]? =W.heap[k]?):zAH W' a l:=by
 intro j hj
 obtain⟨b,off,e,hb,hc⟩:=h j hj
 exact⟨b,off,e,lt_blk hb (hk b hb),cell_blk hc (hk b hb)⟩
theorem zAM.blk{W W':World}{a:Option Addr}{l:List (List Int)}(h:zAM W a l)(hk:∀k,k<W.heap.size->W'.heap[k]? =W.heap[k]?):zAM W' a l:=by
 intro j hj
 obtain⟨b,off,ra,n,cap,e,hb,hc,h1,h2,h3⟩:=h j hj
 exact⟨b,off,ra,n,cap,e,lt_blk hb (hk b hb),cell_blk hc (hk b hb),h1,h2,h3.blk hk⟩
theorem zDF(M:Mask)(y:List Int)(W:Nat):∀t,(zBT M y W t).length<=t*2 ^ W
 |0=>by simp[zBT]
 |t+1=>by
  rw[zCX,yAN]
  have h1:=zDF M y W t
  have h2:=yEL (fitF M y) (comb W t 0)
  have h3:=zEH W t 0
  rw[Nat.add_mul]
  omega
theorem AnyT.tN{P:Program}{md:Region.Mode}{ops:Array Oper}{Q:Exit->Act->World->Prop}{S:World->Prop}{i d:Nat}{oi:Oper}{fuel:Nat}{listed:Array Bool}{a:Act}{w:World}{Wf:Nat->Bool}(hi:ops[i]? =some oi)(hd:oi.dst=some d)(hS:S w)
 (h:AnyT P md ops Q (fun j w=>Wf j=true->S w) fuel (listed.setIfInBounds i true) (a.put (some d) undef) w)
 (hs:Region.noSelect ops=true:=by kernel_rfl)(hf:Region.free md ops listed i=true:=by kernel_rfl)(hr:(Region.ready md ops listed).contains i=true:=by kernel_rfl)(hQ:∀c a w,Q (.panic c) (a.put (some d) undef) w->Q (.panic c) a w:=by first|exact(fun _ _ _ h=>h)|exact(fun _ _ _ h=>absurd h.1 (by simp)))(hW:(List.range ops.size).all (fun j=>waits md ops i j||Wf j)=true:=by kernel_rfl)(hw:Region.wanted oi (yielded ops a.tmps)=false:=by rfl):AnyT P md ops Q (fun j w=>Wf j=true->S w) (fuel+1) listed a w:=
 AnyT.takeDN hi hd hs hf hr hQ hW hw hS h
end
section
open Go.RowKit
theorem AnyT.next2{P:Program}{md:Region.Mode}{ops:Array Oper}{Q:Exit->Act->World->Prop}{T:Nat->World->Prop}{i j:Nat}{fuel:Nat}{listed:Array Bool}{a:Act}{w:World}(hr:Region.ready md ops listed=[i,j])
 (h1:wpOp P ops Q i (fun a' w'=>T i w'∧AnyT P md ops Q T fuel (listed.setIfInBounds i true) a' w') a w)
 (h2:wpOp P ops Q j (fun a' w'=>T j w'∧AnyT P md ops Q T fuel (listed.setIfInBounds j true) a' w') a w):AnyT P md ops Q T (fuel+1) listed a w:=
 ⟨fun h0=>(by rw[hr]at h0;cases h0),fun k hk=>by
   rw[hr]at hk
   have:k=i∨k=j:=by simpa using hk
   rcases this with rfl|rfl
   ·exact h1
   ·exact h2⟩
theorem news2(w:World)(x0 x1:Value)(T:TypeId):∀ad,(some ⟨w.heap.size,0,none⟩:Option Addr)=some ad->∀j u,[x0,x1][j]? =some u->(w.alloc (.cells #[x0,x1] T)).cell? (ad.add j)=some u:=by
 intro ad e j u hu
 cases e
 match j,hu with
 |0,hu=>rw[Addr.add_lit,World.cell?_alloc_at _ _ _ _ rfl];simpa using hu
 |1,hu=>rw[Addr.add_lit,World.cell?_alloc_at _ _ _ _ rfl];simpa using hu
theorem set2_block{w:World}{b:Nat}{a0 a1 v0 v1:Value}{T:TypeId}(h:w.heap[b]? =some (.cells #[a0,a1] T (0,0))):((w.setCell ⟨b,0,none⟩ v0).setCell ⟨b,1,none⟩ v1).heap[b]? =some (.cells #[v0,v1] T (0,0)):=by
 rw[zAT (zAT h 0 v0) 1 v1];rfl
theorem zIG{w:World}{b:Nat}{a0 a1:Value}{T:TypeId}(h:w.heap[b]? =some (.cells #[a0,a1] T (0,0))):
 w.cell? ⟨b,0,none⟩=some a0∧w.cell? ⟨b,1,none⟩=some a1∧w.frozen? ⟨b,0,none⟩=false∧w.frozen? ⟨b,1,none⟩=false∧b<w.heap.size:=
 ⟨by simp[World.cell?,h],by simp[World.cell?,h],by simp[World.frozen?,h],by simp[World.frozen?,h],(yAB.1 h).1⟩
theorem zRB{w:World}{base:Nat}{T:TypeId}{k n:Nat}{v:Value}{xs:List Value}(h:w.ownsRow base T k v n xs){b o:Nat}(u:Value)(hne:∀g,v.ownBlock=some g->g≠b):(w.setCell ⟨b,o,none⟩ u).ownsRow base T k v n xs:=by
 refine⟨h.1,?_⟩
 rcases h.2 with hn|⟨g,cap,cur,rfl,hbg,hgg,rest⟩
 ·exact .inl hn
 ·exact .inr ⟨g,cap,cur,rfl,hbg,(Below.heap_setCell _ _ _ _ (hne g rfl)).trans hgg,rest⟩
end
section
open Go.RowKit
theorem news_ints{wr X:World}{xa:Option Addr}{x:List Int}(hxi:zAH wr xa x)(hX:Below wr.heap.size wr X):∀ad,xa=some ad->∀j u,(x.map (Value.int .i64))[j]? =some u->X.cell? (ad.add j)=some u:=by
 intro ad e j u hu
 rw[yAZ]at hu
 obtain⟨v,hv,rfl⟩:=Option.map_eq_some_iff.1 hu
 obtain⟨hjl,e2⟩:=yBX.1 hv
 obtain⟨b,off,ea,hb,hc⟩:=hxi j hjl
 rw[e]at ea
 cases ea
 rw[Addr.add_lit]
 refine(hX.cell (p:=⟨b,off+j,none⟩) hb).trans ?_
 rw[hc,hv];rfl
end
section
open Go.RowKit
def zGU(W:World)(base:Nat)(v:Value)(l:List Rt):Prop:=
 ∃a n cap,v=.slice a n cap∧l.length=n∧n<=maxLen∧∀j (hj:j<l.length),∃b off,a=some ⟨b,off,none⟩∧b<W.heap.size∧(b<base∨∃c f,W.heap[b]? =some (.cells c 29 f))∧
  W.cell? ⟨b,off+j*2,none⟩=some (.int .i64 l[j].1)∧W.cell? ⟨b,off+j*2+1,none⟩=some (.int .i64 l[j].2)
theorem zGU.keep{W W':World}{base:Nat}{T:Nat->Prop}{v:Value}{l:List Rt}(h:zGU W base v l)(hk:Keep T W W')(hT:∀b,b<W.heap.size->(b<base∨∃c f,W.heap[b]? =some (.cells c 29 f))->T b):zGU W' base v l:=by
 obtain⟨a,n,cap,e,hn,hm,hj⟩:=h
 refine⟨a,n,cap,e,hn,hm,fun j hlt=>?_⟩
 obtain⟨b,off,e,hb,hty,h0,h1⟩:=hj j hlt
 have ht:=hT b hb hty
 refine⟨b,off,e,yAJ hb hk.size,?_,hk.cell h0 ht,hk.cell h1 ht⟩
 rcases hty with h|⟨c,f,h⟩
 ·exact .inl h
 ·exact .inr ⟨c,f,(hk.block b hb ht).trans h⟩
theorem zGU.below{W W':World}{base:Nat}{v:Value}{l:List Rt}(h:zGU W base v l)(hb:Below W.heap.size W W'):zGU W' base v l:=h.keep (Keep.of_below hb:Keep (fun _=>True) _ _) (fun _ _ _=>trivial)
theorem zGU.own{W:World}{base b0:Nat}{v:Value}{l:List Rt}(h:zEC W b0 v l):zGU W base v l:=by
 rcases h.2 with⟨rfl,h0⟩|⟨g,cap,cur,rfl,hbg,hgg,hnc,hcm,hsz,htk⟩
 ·exact⟨none,0,0,rfl,h0,by decide,fun j hj=>by omega⟩
 ·refine⟨_,_,cap,rfl,rfl,by omega,fun j hj=>⟨g,0,rfl,(yAB.1 hgg).1,.inr ⟨cur,_,hgg⟩,?_⟩⟩
  have hc:∀i,i<l.length*2->W.cell? ⟨g,i,none⟩=(zAQ l)[i]? :=fun i hi=>
   World.ownsRow.cellAt (w:=W) (base:=b0) (e:=29) (size:=2) (g:=g) (n:=l.length) (cap:=cap) (xs:=zAQ l) ⟨h.1,.inr ⟨g,cap,cur,rfl,hbg,hgg,hnc,hcm,hsz,htk⟩⟩ i hi
  refine⟨?_,?_⟩
  ·rw[yAW,hc _ (by omega)];exact zFB l j 0 hj (by omega)
  ·rw[yAW,hc _ (by omega)];exact zFB l j 1 hj (by omega)
theorem zGU.rats{W:World}{base n cap:Nat}{a:Option Addr}{l:List Rt}(h:zGU W base (.slice a n cap) l):l.length=n∧n<=maxLen∧zCB W a l:=by
 obtain⟨a',n',cap',e,hn,hm,hj⟩:=h
 cases e
 exact⟨hn,hm,fun j hlt=>by obtain⟨b,off,e,hb,_,h0,h1⟩:=hj j hlt;exact⟨b,off,e,hb,h0,h1⟩⟩
def FitR(o:Option FitT)(e:Ending)(w':World):Prop:=
 (o=none∧e=.returned (.tuple #[.agg #[.slice none 0 0,.slice none 0 0],.bool false]))∨(∃f us ur,o=some f∧e=.returned (.tuple #[.agg #[us,ur],.bool true])∧(∀lo,zDX 3 w' lo (fun _=>True) us f.1)∧∀lo,zGU w' lo ur f.2)
theorem r4fit_c(w:World)(a a2 a3:Option Addr)(n cap n2 cap2 n3 cap3:Nat)(M:Mask)(y S:List Int)(hn:M.length=n)(hn2:y.length=n2)(hn3:S.length=n3)(hm:n<=maxLen)(hm2:n2<=maxLen)(hm3:n3<=1000)(H:zAM w a M)(H2:zAH w a2 y)(H3:zAH w a3 S):
 Calls Tryz.prog 116 #[.slice a n cap,.slice a2 n2 cap2,.slice a3 n3 cap3] w fun e w'=>FitR (fitF M y S) e w'∧Below w.heap.size w w':=by
 obtain⟨wz,hz⟩:=exq (w.alloc (.cells #[.slice none 0 0,.slice none 0 0] 73))
 have hbz:Below w.heap.size w wz:=by rw[hz];exact(Below.refl _ _).alloc (yAC _) _
 have hq:wz.heap[w.heap.size]? =some (.cells #[.slice none 0 0,.slice none 0 0] 73 (0,0)):=by rw[hz];exact World.alloc_heap_new _ _
 have hsz:wz.heap.size=w.heap.size+1:=by rw[hz];simp
 have HSO:=hid (r3Solve_c wz a a3 a2 n cap n3 cap3 n2 cap2 M S y hn hn3 hn2 hm (yAF hm3 (by decide)) hm2 (H.below hbz) (H3.below hbz) (H2.below hbz))
 have HFF:=hid (show fitF M y S=if (zCC M S y).2=0∧(zCC M S y).1.all (fun r=>decide (r.1≠0))=true then some (S,(zCC M S y).1)else none from rfl)
 obtain⟨F,hF⟩:=exq (fitF M y S)
 obtain⟨⟨V,E⟩,hVE⟩:∃V,V=zCC M S y:=⟨_,rfl⟩
 rw[<- hVE]at HSO HFF
 rw[<- hF]at HFF⊢
 simp only[]at HSO HFF
 have HB:=hid hbz
 have HQ:=hid (fun(X:World) (hX:Below wz.heap.size wz X)=>(hX.block w.heap.size (by omega)).trans hq)
 have HZ:=hid hz
 have HN3:=hid hn3
 have H3':=hid H3
 have HSZ:=hid hsz
 clear hn hn2 hn3 H H2 H3 hF hVE hbz hq hz hsz
 go_enter Tryz.func116,Tryz.ntmps116
 go_wp2_with fail
 rw[<- HZ.out]
 go_wp2_with (go_at_call 175;refine HSO.out.mono ?_;rintro e w1 ⟨v,base,rfl,hbs,hO,hb1⟩;refine Stop.of ?_)
 refine Stop.go ?_
 obtain⟨va,vc,rfl,hvm,hvr⟩:=hO.reads
 have HVR:=hid hvr
 have HO:=hid hO
 have HB1:=hid hb1
 have HBS:=hid hbs
 obtain⟨z0,z1,f0,f1,hlt⟩:=zIG (HQ.out w1 hb1)
 have hw1:w.heap.size<=w1.heap.size:=yAF HB.out.size hb1.size
 clear hO hvr hb1 hbs HSO
 by_cases hE:E=0
 rotate_left
 ·obtain rfl:F=none:=by rw[HFF.out,if_neg (fun h=>hE h.1)]
  have hEb:(E !=0)=true:=by simpa using hE
  have HFI:=hid (zAE (zAE (zAA HB.out HB1.out) (yAC _) 0 (.slice none 0 0)) (yAC _) 1 (.slice none 0 0))
  clear hE
  go_wp2
  refine bodyPost_ret (v:=.tuple #[.agg #[.slice none 0 0,.slice none 0 0],.bool false]) ?_ rfl ⟨.inl ⟨rfl,rfl⟩,HFI.out⟩
  simp[results,Tryz.results116,go_sem,z0,z1,f0,f1,hlt]
 ·subst hE
  have hall:F=if V.all (fun r=>decide (r.1≠0))=true then some (S,V)else none:=by
   rw[HFF.out]
   by_cases h:V.all (fun r=>decide (r.1≠0))=true
   ·rw[if_pos ⟨rfl,h⟩,if_pos h]
   ·rw[if_neg (fun hh=>h hh.2),if_neg h]
  have HALL:=hid hall
  unfold maxLen at hvm
  clear hall HFF z0 z1 f0 f1 hlt
  go_wp2
  go_loopw [24] (fun i wr=>∃k:Nat,k<=V.length∧i=.int .i64 k∧Below w1.heap.size w1 wr∧∀j (hj:j<V.length),j<k->decide (V[j].1≠0)=true) (fun i _=>V.length-(intOf i).toNat)
  case atStart=>exact⟨0,yAK _,rfl,Below.refl _ _,fun j _ h=>by omega⟩
  case round=>
   obtain⟨k,hk,rfl,hb,hno⟩:=hrel
   have HNO:=hid hno
   clear hno
   obtain⟨z0,z1,f0,f1,hlt⟩:=zIG (HQ.out wr (zAA HB1.out hb))
   by_cases hkl:k<V.length
   ·obtain⟨b,off,rfl,hbs,h0,h1⟩:=(HVR.out.below hb) k hkl
    obtain⟨⟨p,q⟩,hr⟩:∃r,r=V[k]'hkl:=⟨_,rfl⟩
    rw[<- hr]at h0 h1
    simp only[]at h0 h1
    have HR:=hid hr
    have HBB:=hid hb
    have HKL:=hid hkl
    clear hr hb
    by_cases hp:p=0
    ·subst hp
     have hbad:F=none:=by
      rw[HALL.out,if_neg]
      intro hh
      have:=yAT.1 hh _ (yAH HKL.out)
      rw[<- HR.out]at this
      simp at this
     subst hbad
     have hsw:w.heap.size<wr.heap.size:=hlt
     have hq3:(((wr.setCell ⟨w.heap.size,0,none⟩ (.slice none 0 0)).setCell ⟨w.heap.size,1,none⟩ (.slice none 0 0)).alloc (.cells #[.int .i64 0,.int .i64 q] 29)).heap[w.heap.size]? =some (.cells #[.slice none 0 0,.slice none 0 0] 73 (0,0)):=
      (Below.heap_alloc _ _ _ (by simp[World.setCell];omega)).trans (set2_block (HQ.out wr (zAA HB1.out HBB.out)))
     obtain⟨y0,y1,_,_,hl2⟩:=zIG hq3
     have hbS:=zAE (zAE (zAA (zAA HB.out HB1.out) HBB.out) (yAC _) 0 (.slice none 0 0)) (yAC _) 1 (.slice none 0 0)
     have HFI:=hid (hbS.alloc (by simp[World.setCell];omega) (.cells #[.int .i64 0,.int .i64 q] 29))
     clear hq3 hbS
     go_wp2
     refine bodyPost_ret (v:=.tuple #[.agg #[.slice none 0 0,.slice none 0 0],.bool false]) ?_ rfl ⟨.inl ⟨rfl,rfl⟩,HFI.out⟩
     simp[results,Tryz.results116,go_sem,y0,y1,hl2]
    ·have hpe:(p==0)=false:=by simpa using hp
     have HP:=hid hp
     clear hp z0 z1 f0 f1 hlt
     go_wp2
     refine⟨⟨k+1,by omega,by go_num,HBB.out.alloc HBB.out.size _,fun j hj hjk=>?_⟩,by simp[intOf];omega⟩
     by_cases e:j=k
     ·subst e;rw[<- HR.out];simpa using HP.out
     ·exact HNO.out j hj (by omega)
   ·obtain rfl:k=V.length:=by omega
    have hgood:F=some (S,V):=by
     rw[HALL.out,if_pos]
     exact yAT.2 fun r hr=>by obtain⟨j,hj,rfl⟩:=yDQ hr;exact HNO.out j hj hj
    have HGO:=hid hgood
    have hbw:Below w.heap.size w wr:=zAA (zAA HB.out HB1.out) hb
    have h3i:=H3'.out.below hbw
    have hX0:a3=none->n3=0:=fun h=>by
     rcases yBR n3 with h'|h'
     ·exact h'
     ·obtain⟨_,_,e,_⟩:=H3'.out 0 (by rw[HN3.out];exact h');rw[h]at e;cases e
    have hbA:Below wr.heap.size wr (wr.alloc (.cells #[] 3)):=(Below.refl _ _).alloc (yAC _) _
    have HNX:=hid (news_ints h3i hbA)
    have M:=World.ownsRow_made (base:=wr.heap.size) (e:=3) (size:=1) wr #[] 0 (yAC _) (yAK _) rfl
    have HM:=hid M
    have HX0:=hid hX0
    have HBW:=hid hbw
    have HBA:=hid hbA
    have HB':=hid hb
    have hws:=yAF hw1 hb.size
    have HQA:=hid (HQ.out wr (zAA HB1.out hb))
    clear hgood hbw h3i hX0 hbA M hb z0 z1 f0 f1 hlt
    go_wp2_with (at_builtin;refine zAN _ rfl (.tmp 33) (.tmp 34) 24 rfl wr.heap.size 3 (.int .i64 0) 1 8 Tryz.underlying24 zDN rfl yBH (.slice (some ⟨wr.heap.size,0,none⟩) 0 0) 0 [] rfl HM.out a3 n3 cap3 (S.map (Value.int .i64)) rfl (by rw[yAS,HN3.out,Nat.mul_one]) HX0.out HNX.out (zMG _) (by rw[yAW];unfold maxLen;omega) (by omega) (by simp) ?_;intro ca cc w4 own4 g4;refine Stop.of ?_)
    refine Stop.go ?_
    have hb4:Below wr.heap.size wr w4:=HBA.out.grown g4 HBA.out.size (fun g hg=>(HM.out.lt g hg).1)
    have hown4:w4.ownsRow wr.heap.size 3 1 (.slice ca n3 cc) n3 (S.map (Value.int .i64)):=by simpa using own4
    obtain⟨z0,z1,f0,f1,hlt⟩:=zIG ((hb4.block w.heap.size (by have:=HSZ.out;have:=HB1.out.size;have:=HB'.out.size;omega)).trans HQA.out)
    have HFI:=hid (zAE (zAE (zAA HBW.out hb4) (yAC _) 0 (.slice ca n3 cc)) (yAC _) 1 (.slice va V.length vc))
    have hszz:w.heap.size<wr.heap.size:=by have:=HSZ.out;have:=HB1.out.size;have:=HB'.out.size;omega
    have hE1:∀lo,zDX 3 ((w4.setCell ⟨w.heap.size,0,none⟩ (.slice ca n3 cc)).setCell ⟨w.heap.size,1,none⟩ (.slice va V.length vc)) lo (fun _=>True) (.slice ca n3 cc) S:=fun lo=>
     zDX.own' (zRB (zRB hown4 _ (fun g hg=>by have:=(hown4.lt g hg).1;omega)) _ (fun g hg=>by have:=(hown4.lt g hg).1;omega)) rfl HN3.out (by unfold maxLen;omega) (fun _ _=>trivial)
    have hO4:zEC w4 base (.slice va V.length vc) V:=zEC.below HO.out (zAA HB'.out hb4)
    have hE2:∀lo,zGU ((w4.setCell ⟨w.heap.size,0,none⟩ (.slice ca n3 cc)).setCell ⟨w.heap.size,1,none⟩ (.slice va V.length vc)) lo (.slice va V.length vc) V:=fun lo=>
     zGU.own (zRB (zRB hO4 _ (fun g hg=>by have:=(hO4.lt g hg).1;have:=HBS.out;have:=HSZ.out;omega)) _ (fun g hg=>by have:=(hO4.lt g hg).1;have:=HBS.out;have:=HSZ.out;omega))
    have HE1:=hid hE1
    have HE2:=hid hE2
    clear hE1 hE2 hO4 hown4 own4 g4 hb4
    go_wp2
    refine bodyPost_ret (v:=.tuple #[.agg #[.slice ca n3 cc,.slice va V.length vc],.bool true]) ?_ rfl ⟨.inr ⟨_,_,_,HGO.out,rfl,HE1.out,HE2.out⟩,HFI.out⟩
    simp[results,Tryz.results116,go_sem,z0,z1,f0,f1,hlt]
end
section
open Go.RowKit
theorem lvls_mem{n:Nat}{s:List Int}:∀{k:Nat},s∈lvls n k->∃j,j<=k∧s∈comb n j 0
 |0,h=>⟨0,yAC _,h⟩
 |k+1,h=>by
  rcases yCU.1 h with h|h
  ·obtain⟨j,hj,h⟩:=lvls_mem h
   exact⟨j,by omega,h⟩
  ·exact⟨k+1,yAC _,h⟩
theorem zPU(n:Nat):∀k,(lvls n k).length<=(k+1)*2 ^ n
 |0=>by have:=zEH n 0 0;show(comb n 0 0).length<=_;omega
 |k+1=>by
  show(lvls n k++comb n (k+1) 0).length<=_
  rw[yAN,Nat.succ_mul]
  have h1:=zPU n k
  have h3:=zEH n (k+1) 0
  omega
theorem allS_le{n:Nat}(h:n<=10):(allS n).length<=20000:=by
 have h1:=zPU n n
 have h2:2 ^ n<=2 ^ 10:=yCG (by decide) h
 have h3:(n+1)*2 ^ n<=11*2 ^ 10:=yAV (by omega) h2
 unfold allS
 omega
theorem zOO{n:Nat}{s:List Int}(h:s∈allS n):s.length<=n∧zCI n s:=by
 obtain⟨j,hj,hs⟩:=lvls_mem h
 exact⟨by rw[zCG n j 0 s hs];exact hj,zHR hs⟩
def zLW(n q:Nat)(s:List Int)(F:Int)(t:Nat):List (List Int):=grown n q++((upF F (n-F).toNat).take t).map (fun j=>s++[j])
theorem growT_succ{n q:Nat}{s:List Int}{F:Int}{t:Nat}(h:t<(n-F).toNat):zLW n q s F (t+1)=zLW n q s F t++[s++[F+t]]:=by
 unfold zLW
 have h1:t<(upF F (n-F).toNat).length:=by rw[zGJ];exact h
 have h2:(upF F (n-F).toNat)[t]=F+t:=by
  have:=zQO (n-F).toNat F t h
  rw[yAA h1]at this
  simpa using this
 rw[yAI h1,h2,yBF,yBZ];rfl
theorem growT_zero(n q:Nat)(s:List Int)(F:Int):zLW n q s F 0=grown n q:=by simp[zLW]
theorem growT_all{n q:Nat}{s:List Int}{t:Nat}(hs:(allS n)[q]? =some s)(h:(n-zBM 0 s).toNat<=t):zLW n q s (zBM 0 s) t=grown n (q+1):=by
 rw[zPX hs]
 unfold zLW extS
 rw[yAL (by rw[zGJ];exact h)]
theorem growT_le{n q:Nat}{s:List Int}{t:Nat}(hs:(allS n)[q]? =some s):(zLW n q s (zBM 0 s) t).length<=(allS n).length:=by
 have h1:(zLW n q s (zBM 0 s) t).length<=(grown n (q+1)).length:=by
  rw[zPX hs]
  unfold zLW extS
  rw[yAN,yAN,yAS,yAS]
  have:=List.length_take_le t (upF (zBM 0 s) (n-zBM 0 s).toNat)
  have h3:((upF (zBM 0 s) (n-zBM 0 s).toNat).take t).length<=(upF (zBM 0 s) (n-zBM 0 s).toNat).length:=List.length_take_le' _ _
  omega
 exact yAF h1 (zFS n (q+1)).length_le
theorem nextFrom_at{s:List Int}{k:Nat}(h:s.length=k+1):zBM 0 s=s[k]?.getD 0+1:=by
 unfold zBM
 rw[List.getLast?_eq_getElem?,h]
 simp only[yEY]
 rw[yAA (by omega)]
 rfl
theorem nextFrom_nil:zBM 0 []=0:=rfl
theorem nextFrom_le{n:Nat}{s:List Int}(h:zCI n s):0<=zBM 0 s∧zBM 0 s<=n:=by
 unfold zBM
 cases hs:s.getLast? with
 |none=>simp
 |some x=>
  have:=h.2 x (List.mem_of_getLast? hs)
  simp only[]
  omega
theorem RowS.beside{w1 w3:World}{base n:Nat}{v u:Value}{l:List Int}{vs:List Value}(h:RowS w1 u l)(h1:w1.ownsRow base 24 1 v n vs)(hg:w1.grownBy w3 v.ownBlock):RowS w3 u l:=by
 rcases h with⟨g,c,e,hs⟩|h
 ·refine .inl ⟨g,c,e,hs.keep (hg.block g hs.lt fun e=>?_)⟩
  obtain⟨_,c2,hc⟩:=zCE h1 e.symm
  obtain⟨sp,hs⟩:=hs
  rw[hc]at hs
  cases hs
 ·exact .inr h
theorem tab_nil(w:World):TabS (w.alloc (.cells #[.slice none 0 0] 24)) w.heap.size (.slice (some ⟨w.heap.size,0,none⟩) 1 1) [[]]:=by
 refine⟨[.slice none 0 0],⟨rfl,.inr ⟨w.heap.size,1,#[.slice none 0 0],rfl,yAC _,World.alloc_heap_new _ _,yAC _,by decide,rfl,rfl⟩⟩,fun j hj=>?_⟩
 match j,hj with
 |0,_=>exact⟨_,rfl,.inr ⟨rfl,none,0,rfl⟩⟩
theorem r3sets_c(w:World)(n:Nat)(hn:n<=10):Calls Tryz.prog 182 #[.int .i64 n] w fun e w'=>∃v,e=.returned v∧TabS w' w.heap.size v (allS n)∧Below w.heap.size w w':=by
 have HAL:=hid (allS_le hn)
 have HT0:=hid (tab_nil w)
 have HB0:=hid (show Below w.heap.size w (w.alloc (.cells #[.slice none 0 0] 24))from(Below.refl _ _).alloc (yAC _) _)
 have HG0:=hid (show grown n 0=[[]]by simp[grown])
 have HGD:=hid (fun(q:Nat) (h:(grown n q).length<=q)=>grown_done h)
 obtain⟨N,hN⟩:=exq ((allS n).length)
 rw[<- hN]at HAL
 have HN:=hid hN
 have hn20:=HAL.out
 clear hN
 go_enter Tryz.func182,Tryz.ntmps182
 go_wp2
 go_loopw [3,4] (fun v i wr=>∃q:Nat,q<=N∧i=.int .i64 q∧TabS wr w.heap.size v (grown n q)∧Below w.heap.size w wr) (fun _ i _=>N-(intOf i).toNat)
 case atStart=>exact⟨0,yAK _,rfl,by rw[HG0.out];exact HT0.out,HB0.out⟩
 case round=>
  clear HT0 HB0 HG0
  obtain⟨wo,hwo⟩:=exq (wr)
  subst hwo
  obtain⟨q,hq,rfl,ho,hbk⟩:=hrel
  obtain⟨ln,hln⟩:=exq ((grown n q).length)
  have hle:ln<=N:=by rw[hln,HN.out];exact(zFS n q).length_le
  obtain⟨la,lc,rfl⟩:∃la lc,u3=.slice la ln lc:=by
   obtain⟨_,ho1,_⟩:=ho
   obtain⟨a',c',e⟩:=zAC ho1
   exact⟨a',c',by rw[e,hln]⟩
  by_cases hlt:q<ln
  ·obtain⟨g0,lcap,us,e0,hg0,hg0s,hcs,hrs,_,_⟩:=ho.at hln.symm hlt
   cases e0
   have hql:q<(grown n q).length:=by rw[<- hln];exact hlt
   have hget:=grown_get hql
   have hgd:(grown n q)[q]?.getD []=(grown n q)[q]:=by rw[yAA hql];rfl
   rw[hgd]at hrs
   obtain⟨s,hs⟩:=exq ((grown n q)[q])
   rw[<- hs]at hget hrs
   have hsm:s∈allS n:=yBM hget
   obtain⟨hsl,hso⟩:=zOO hsm
   obtain⟨hF0,hFn⟩:=nextFrom_le hso
   have hso':∀y∈s,0<=y∧y<(n:Int):=fun y hy=>hso.2 y hy
   obtain⟨sa,sc,rfl⟩:=hrs.slice
   have hqN:q<N:=by omega
   have HGT:=hid (fun(t:Nat) (h:t<(n-zBM 0 s).toNat)=>growT_succ (q:=q) (s:=s) h)
   have HGA:=hid (fun(t:Nat) (h:(n-zBM 0 s).toNat<=t)=>growT_all hget h)
   have HGL:=hid (fun(t:Nat)=>growT_le (t:=t) hget)
   have HGZ:=hid (growT_zero n q s (zBM 0 s))
   have hNA:=fun(k:Nat) (h:s.length=k+1)=>nextFrom_at h
   obtain⟨F,hF⟩:=exq (zBM 0 s)
   rw[<- hF]at hF0 hFn HGT HGA HGL HGZ
   obtain⟨G,hG⟩:∃G:Nat,(G:Int)=F:=⟨F.toNat,by omega⟩
   obtain⟨sl,hsl'⟩:∃sl,sl=s.length:=⟨_,rfl⟩
   have hii:zAH wo sa s:=by
    obtain⟨a',n',c',e',_,_,h⟩:=hrs.sl (by unfold maxLen;omega)
    cases e';exact h
   have hF':(sl=0∧G=0)∨(∃k:Nat,sl=k+1∧∃b off,∃y:Int,sa=some ⟨b,off,none⟩∧wo.cell? ⟨b,off+k,none⟩=some (.int .i64 y)∧y+1=(G:Int)∧0<=y∧y<10):=by
    rcases yBR sl with h|h
    ·left
     have:s=[]:=yBT.1 (by omega)
     refine⟨h,?_⟩
     rw[this,nextFrom_nil]at hF
     omega
    ·right
     refine⟨sl-1,by omega,?_⟩
     have hk:s.length=(sl-1)+1:=by omega
     obtain⟨b,off,e,_,hc⟩:=hii (sl-1) (by omega)
     have h1:=hNA _ hk
     have h2:=hso' (s[sl-1]?.getD 0) (by rw[yAA (by omega)];exact yAH _)
     exact⟨b,off,_,e,hc,by omega,by omega,by omega⟩
   rw[<- hsl']at hrs hcs
   have HRS:=hid hrs
   have HO:=hid ho
   have HBK:=hid hbk
   have HSL:=hid hsl'
   have hG10:G<=n:=by omega
   have hqi:(q:Int)<(ln:Int):=by omega
   have hsl10:sl<=10:=by omega
   rw[<- hG]at HGT HGA HGL HGZ
   clear hs hget hgd hsm hsl hso hso' hF0 hFn hNA hF hG hsl' hii hrs ho hbk hln hql hle
   go_upto_if 21 with fail
   go_cut [6]from 9 to 43 (fun v wx=>v=.int .i64 G∧wx=wo)
   case first=>
    rcases hF' with⟨rfl,rfl⟩|⟨k,rfl,b,off,y,rfl,hc,hy,hy0,hy1⟩
    ·go_wp2
     go_meet
     case rel=>exact⟨rfl,rfl⟩
    ·have hp:((k+1:Nat):Int)-1=(k:Int):=by omega
     have hy2:IntKind.i64.wrap (y+1)=(G:Int):=by rw[hy];exact IntWalk.i64_in _ (by omega)
     go_wp2
     go_meet
     case rel=>exact⟨by first|rfl| (congr 1)|simp_all,rfl⟩
   case rest=>
    obtain⟨rfl,rfl⟩:=hcut
    clear hF'
    go_wp2
    go_loopw [3,7] (fun v i wr=>∃t:Nat,G+t<=n∧i=.int .i64 ((G+t:Nat):Int)∧TabS wr w.heap.size v (zLW n q s G t)∧RowS wr (.slice sa sl sc) s∧Below w.heap.size w wr) (fun _ i _=>n-(intOf i).toNat)
    case atStart=>exact⟨0,by omega,by simp,by rw[HGZ.out];exact HO.out,HRS.out,HBK.out⟩
    case round=>
     obtain⟨t,ht,rfl,hT,hR,hbt⟩:=hrel
     by_cases hlt2:G+t<n
     ·have hgs:=HGT.out t (by omega)
      have hgl:=HGL.out t
      rw[show(G:Int)+(t:Int)=((G+t:Nat):Int)by omega]at hgs
      obtain⟨J,hJ⟩:=exq (G+t)
      rw[<- hJ]at hgs⊢
      have hJn:J<n:=by omega
      have HJ:=hid hJ
      obtain⟨T,hTe⟩:=exq (zLW n q s G t)
      rw[<- hTe]at hgs hgl hT
      rw[<- HN.out]at hgl
      obtain⟨tl,htl⟩:=exq (T.length)
      rw[<- htl]at hgl
      obtain⟨va,vc,rfl⟩:∃la lc,u3=.slice la tl lc:=by
       obtain⟨_,ho1,_⟩:=hT
       obtain⟨a',c',e⟩:=zAC ho1
       exact⟨a',c',by rw[e,htl]⟩
      have hii:zAH wr sa s:=by
       obtain⟨a',n',c',e',_,_,h⟩:=hR.sl (by rw[<- HSL.out];unfold maxLen;omega)
       cases e';exact h
      have hwa:Below wr.heap.size wr (wr.alloc (.cells #[] 3)):=(Below.refl _ _).alloc (yAC _) _
      have M0:=World.ownsRow_made (base:=wr.heap.size) (e:=3) (size:=1) wr #[] 0 (yAC _) (yAK _) rfl
      have HM0:=hid M0
      have HI0:=hid (hii.below hwa)
      have HT:=hid hT
      have HR:=hid hR
      have HBT:=hid hbt
      have HGS:=hid hgs
      have HTL:=hid htl
      have M1:=hid (show 0+sl<=maxLen by unfold maxLen;omega)
      have M2:=hid (show(0+sl)*8<=140737488355328 by omega)
      have M4:=hid (show sl+1<=maxLen by unfold maxLen;omega)
      have M5:=hid (show(sl+1)*8<=140737488355328 by omega)
      have M6:=hid (show tl+1<=maxLen by unfold maxLen;omega)
      have M7:=hid (show(tl+1)*24<=140737488355328 by omega)
      have h1c:∀u∈s.map (Value.int .i64),u.oneCell'=true:=fun u hu=>by
       obtain⟨x,_,rfl⟩:=yBJ.1 hu;rfl
      have H1C:=hid h1c
      have HLs:=hid (show(s.map (Value.int .i64)).length=sl*1 by rw[yAS,Nat.mul_one];exact HSL.out.symm)
      have HNone:=hid (show sa=none->sl=0 from fun e=>by rw[HSL.out];exact zNU HI0.out e)
      have HA0:=hid hwa
      clear hwa M0 hii hT hR hbt hgs htl hJ hTe h1c
      go_wp2_with (at_builtin;refine zAN _ rfl (.tmp 36) (.tmp 37) 24 rfl wr.heap.size 3 (.int .i64 0) 1 8 Tryz.underlying24 zDN rfl yBH (.slice (some ⟨wr.heap.size,0,none⟩) 0 0) 0 [] rfl HM0.out sa sl sc (s.map (Value.int .i64)) rfl HLs.out HNone.out (zNV HI0.out) H1C.out M1.out M2.out (zCL _ _) ?_;refine Stop.of ?_)
      refine Stop.go ?_
      intro a1 c1 w1 own1 g1
      have hb1:Below wr.heap.size wr w1:=HA0.out.grown g1 (zCL _ _) fun k hk=>(zCE HM0.out hk).1
      have hb1a:Below wr.heap.size wr (w1.alloc (.cells #[.int .i64 J] 3)):=hb1.alloc hb1.size _
      have HO1:=hid (zBJ own1 ((Below.refl _ w1).alloc (yAC _) (.cells #[.int .i64 J] 3)))
      have HB1:=hid hb1a
      have M8:=hid hb1a.size
      clear own1 g1 hb1 hb1a
      go_wp2_with (at_builtin;refine zAN _ rfl (.tmp 38) (.tmp 40) 24 rfl wr.heap.size 3 (.int .i64 0) 1 8 Tryz.underlying24 zDN rfl yBH (.slice a1 sl c1) sl _ rfl HO1.out (some ⟨w1.heap.size,0,none⟩) 1 1 [.int .i64 J] rfl rfl zBS (zBC w1 _ _) (zEL _) M4.out M5.out M8.out ?_;refine Stop.of ?_)
      refine Stop.go ?_
      intro a2 c2 w2 own2 g2
      have hrow:RowS w2 (.slice a2 (sl+1) c2) (s++[((J:Nat):Int)]):=by
       refine zHW (b0:=wr.heap.size) (n:=sl+1) ?_ (by rw[yAN,HSL.out];rfl)
       rw[yBF];exact own2
      have hb2:Below wr.heap.size wr w2:=HB1.out.grown g2 M8.out fun k hk=>(zCE HO1.out hk).1
      have hb2a:Below wr.heap.size wr (w2.alloc (.cells #[.slice a2 (sl+1) c2] 24)):=hb2.alloc hb2.size _
      have hT2:=HT.out.below hb2a
      obtain⟨vs,hv1,hv2⟩:=hT2
      have hv1':=hv1
      rw[<- HTL.out]at hv1'
      have HV1:=hid hv1
      have HV1':=hid hv1'
      have HV2:=hid hv2
      have HRW:=hid (hrow.below ((Below.refl _ w2).alloc (yAC _) (.cells #[.slice a2 (sl+1) c2] 24)))
      have HR2:=hid (HR.out.below hb2a)
      have HBF:=hid (zAA HBT.out hb2a)
      have M9:=hid HBF.out.size
      clear own2 g2 hrow hb2 hb2a hv1 hv1' hv2
      go_wp2_with (at_builtin;refine zAN _ rfl (.tmp 35) (.tmp 42) 22 rfl w.heap.size 24 (.slice none 0 0) 1 24 Tryz.underlying22 zEP rfl yBH (.slice va tl vc) tl vs rfl HV1'.out (some ⟨w2.heap.size,0,none⟩) 1 1 [.slice a2 (sl+1) c2] rfl rfl zBS (zBC w2 _ _) (zBL _ _ _) M6.out M7.out M9.out ?_;refine Stop.of ?_)
      refine Stop.go ?_
      intro a3 c3 w3 own3 g3
      have hT3:TabS w3 w.heap.size (.slice a3 (tl+1) c3) (T++[s++[((J:Nat):Int)]]):=TabS.snoc HV1.out HV2.out (Below.refl _ _) HRW.out g3 (by rw[<- HTL.out];exact own3)
      rw[<- HGS.out]at hT3
      have hR3:=HR2.out.beside HV1'.out g3
      have hB3:Below w.heap.size w w3:=HBF.out.grown g3 M9.out fun k hk=>(zCE HV1'.out hk).1
      have hJe:J+1=G+(t+1):=by have:=HJ.out;omega
      have HJE:=hid hJe
      clear own3 g3 hJe
      go_wp2
      refine⟨⟨t+1,by have:=HJ.out;omega,by rw[<- HJE.out];go_num,hT3,hR3,hB3⟩,by simp[intOf];omega⟩
     ·have hall:=HGA.out t (by omega)
      rw[hall]at hT
      have HT:=hid hT
      have HB:=hid hbt
      clear hall hT hR hbt
      go_wp2
      exact⟨⟨q+1,by omega,by go_num,HT.out,HB.out⟩,by simp[intOf];omega⟩
  ·have hfin:=HGD.out q (by omega)
   rw[hfin]at ho
   have HO:=hid ho
   have HB:=hid hbk
   clear hfin ho hbk hln
   go_wp2
   go_ret
   exact⟨_,rfl,HO.out,HB.out⟩
end
section
open Go.RowKit
theorem zMH:(Tryz.prog.info? 73).map (fun i=>(i.zero,i.size,i.bytes))=some (some (.agg #[.slice none 0 0,.slice none 0 0]),2,48):=by kernel_rfl
def zKE(W:World)(base:Nat)(v:Value)(T:List FitT):Prop:=
 ∃xs,W.ownsRow base 73 2 v T.length xs∧∀j (hj:j<T.length),∃us ur,xs[j*2]? =some us∧xs[j*2+1]? =some ur∧zDX 3 W base (fun _=>True) us T[j].1∧zGU W base ur T[j].2
theorem zKE.nil(W:World)(base:Nat):zKE W base (.slice none 0 0) []:=⟨[],World.ownsRow_nil _ _ _ _,fun j hj=>by simp at hj⟩
theorem zKE.below{W W':World}{base:Nat}{v:Value}{T:List FitT}(h:zKE W base v T)(hb:Below W.heap.size W W'):zKE W' base v T:=by
 obtain⟨xs,ho,he⟩:=h
 refine⟨xs,zBJ ho hb,fun j hj=>?_⟩
 obtain⟨us,ur,h1,h2,h3,h4⟩:=he j hj
 exact⟨us,ur,h1,h2,h3.keep (Keep.of_below hb:Keep (fun _=>True) _ _) (fun _ _ _ _=>trivial),h4.below hb⟩
def zGI(w:World)(a:Option Addr)(T:List FitT):Prop:=
 ∀j (hj:j<T.length),∃b off pa pn pc va vn vc,a=some ⟨b,off,none⟩∧b<w.heap.size∧w.cell? ⟨b,off+j*2,none⟩=some (.slice pa pn pc)∧w.cell? ⟨b,off+j*2+1,none⟩=some (.slice va vn vc)∧
  T[j].1.length=pn∧pn<=maxLen∧zAH w pa T[j].1∧T[j].2.length=vn∧vn<=maxLen∧zCB w va T[j].2
theorem zGI.below{w w':World}{a:Option Addr}{T:List FitT}(h:zGI w a T)(hb:Below w.heap.size w w'):zGI w' a T:=by
 intro j hj
 obtain⟨b,off,pa,pn,pc,va,vn,vc,e,hlt,h0,h1,h2,h3,h4,h5,h6,h7⟩:=h j hj
 exact⟨b,off,pa,pn,pc,va,vn,vc,e,yAJ hlt hb.size,(hb.cell (p:=⟨b,_,none⟩) hlt).trans h0,(hb.cell (p:=⟨b,_,none⟩) hlt).trans h1,h2,h3,h4.below hb,h5,h6,h7.below hb⟩
theorem zKE.reads{W:World}{base:Nat}{v:Value}{T:List FitT}(h:zKE W base v T):∃a cap,v=.slice a T.length cap∧T.length<=maxLen∧zGI W a T:=by
 obtain⟨xs,ho,he⟩:=h
 rcases ho.2 with⟨rfl,h0⟩|⟨g,cap,cur,rfl,hbg,hgg,hnc,hcm,hsz,htk⟩
 ·exact⟨none,0,by rw[h0],by rw[h0];decide,fun j hj=>by omega⟩
 ·refine⟨_,cap,rfl,by omega,fun j hj=>?_⟩
  obtain⟨us,ur,h1,h2,h3,h4⟩:=he j hj
  have hc:∀i,i<T.length*2->W.cell? ⟨g,i,none⟩=xs[i]? :=fun i hi=>
   World.ownsRow.cellAt (w:=W) (base:=base) (e:=73) (size:=2) (g:=g) (n:=T.length) (cap:=cap) (xs:=xs) ⟨ho.1,.inr ⟨g,cap,cur,rfl,hbg,hgg,hnc,hcm,hsz,htk⟩⟩ i hi
  obtain⟨sa,sn,sc,rfl,_⟩:=id h3
  obtain⟨ra,rn,rc,rfl,_⟩:=id h4
  obtain⟨k1,k2,k3⟩:=h3.ints
  obtain⟨m1,m2,m3⟩:=h4.rats
  exact⟨g,0,sa,sn,sc,ra,rn,rc,rfl,(yAB.1 hgg).1,by rw[yAW,hc _ (by omega)];exact h1,by rw[yAW,hc _ (by omega)];exact h2,k1,k2,k3,m1,m2,m3⟩
theorem zKE.snoc{W w1 w2:World}{base:Nat}{v v' us ur:Value}{T:List FitT}{t:FitT}{xs:List Value}
 (ho:W.ownsRow base 73 2 v T.length xs)(he:∀j (hj:j<T.length),∃us ur,xs[j*2]? =some us∧xs[j*2+1]? =some ur∧zDX 3 W base (fun _=>True) us T[j].1∧zGU W base ur T[j].2)
 (h1:zDX 3 W base (fun _=>True) us t.1)(h2:zGU W base ur t.2)
 (hW1:Below W.heap.size W w1)(hg:w1.grownBy w2 v.ownBlock)(ho':w2.ownsRow base 73 2 v' (T.length+1) (xs++[us,ur])):zKE w2 base v' (T++[t]):=by
 have hlen:xs.length=T.length*2:=ho.1
 have hgb:∀(E:TypeId),E≠73->∀b,(b<base∨∃c f,W.heap[b]? =some (.cells c E f))->b<W.heap.size->w2.heap[b]? =W.heap[b]? :=by
  intro E hE b hty hb
  refine(hg.block b (yAJ hb hW1.size) ?_).trans (hW1.block b hb)
  rcases ho.2 with⟨rfl,_⟩|⟨g,cap,cur,rfl,hbg,hgg,_⟩
  ·simp[Value.ownBlock]
  ·intro e
   obtain rfl:b=g:=by simpa[Value.ownBlock]using e
   rcases hty with h|⟨c,f,h⟩
   ·omega
   ·rw[h]at hgg;cases hgg;exact hE rfl
 have hel:∀u l,zDX 3 W base (fun _=>True) u l->zDX 3 w2 base (fun _=>True) u l:=by
  intro u l h
  refine h.keep (T:=fun b=>b<W.heap.size∧(b<base∨∃c f,W.heap[b]? =some (.cells c 3 f))) ⟨hg.os.trans hW1.os,hg.tape.trans hW1.tape,hg.output.trans hW1.output,yAF hW1.size hg.size,fun k hk hT=>hgb 3 (by decide) k hT.2 hk⟩ fun b _ hb hty=>⟨hb,hty⟩
 have heq:∀u l,zGU W base u l->zGU w2 base u l:=by
  intro u l h
  refine h.keep (T:=fun b=>b<W.heap.size∧(b<base∨∃c f,W.heap[b]? =some (.cells c 29 f))) ⟨hg.os.trans hW1.os,hg.tape.trans hW1.tape,hg.output.trans hW1.output,yAF hW1.size hg.size,fun k hk hT=>hgb 29 (by decide) k hT.2 hk⟩ fun b hb hty=>⟨hb,hty⟩
 refine⟨xs++[us,ur],by rw[yAN];exact ho',fun j hj=>?_⟩
 by_cases e:j<T.length
 ·obtain⟨us',ur',k1,k2,k3,k4⟩:=he j e
  refine⟨us',ur',by rw[yAO (by omega)];exact k1,by rw[yAO (by omega)];exact k2,?_,?_⟩
  ·rw[yBO e];exact hel _ _ k3
  ·rw[yBO e];exact heq _ _ k4
 ·have:j=T.length:=by simp at hj;omega
  subst this
  refine⟨us,ur,by rw[yAQ (by omega),hlen];simp,by rw[yAQ (by omega),hlen,show T.length*2+1-T.length*2=1 by omega];rfl,?_,?_⟩
  ·simp only[yBL (yAC _),yCF,yBG];exact hel _ _ h1
  ·simp only[yBL (yAC _),yCF,yBG];exact heq _ _ h2
def allF(M:Mask)(y:List Int):List FitT:=(allS (zAD M)).filterMap (fitF M y)
theorem zOZ{α β:Type}(f:α->Option β)(l:List α){k:Nat}(hk:k<l.length):(l.take (k+1)).filterMap f=(l.take k).filterMap f++(f l[k]).toList:=by
 rw[yAI hk,yCS]
 first
  |done
  | (congr 1;first|done| (cases h:f l[k]<;>simp[h]))
theorem r4All_c(w:World)(a a2:Option Addr)(n cap n2 cap2:Nat)(M:Mask)(y:List Int)(hn:M.length=n)(hn2:y.length=n2)(hm:n<=maxLen)(hm2:n2<=maxLen)(H:zAM w a M)(H2:zAH w a2 y)(hM:okM M=true):
 Calls Tryz.prog 157 #[.slice a n cap,.slice a2 n2 cap2] w fun e w'=>∃v base,e=.returned v∧w.heap.size<=base∧zKE w' base v (allF M y)∧Below w.heap.size w w':=by
 obtain⟨_,h1,h6,hc1,hc10⟩:=zCR hM
 obtain⟨b,off,ra,rc,rfl,hb,hc⟩:=zCT H (by omega)
 have i0:(0:Int)<(n:Int):=by omega
 have HFT:=hid (fun(X:World) (hX:Below w.heap.size w X) (sa:Option Addr) (sn sc:Nat) (S:List Int) (hs:S.length=sn) (hsm:sn<=1000) (hi:zAH X sa S)=>r4fit_c X (some ⟨b,off,none⟩) a2 sa n cap n2 cap2 sn sc M y S hn hn2 hs hm hm2 hsm (H.below hX) (H2.below hX) hi)
 have HST:=hid (r3sets_c w (zAD M) hc10)
 have HSL:=hid (fun(s:List Int) (hs:s∈allS (zAD M))=>(zOO hs).1)
 have HSC:=hid (allS_le hc10)
 have HAF:=hid (show allF M y=(allS (zAD M)).filterMap (fitF M y)from rfl)
 obtain⟨R,hR⟩:=exq (allF M y)
 obtain⟨SS,hSS⟩:=exq (allS (zAD M))
 obtain⟨W,hW⟩:=exq (zAD M)
 rw[<- hSS]at HST HSL HSC HAF
 rw[<- hR]at HAF⊢
 rw[<- hW]at HST HSL hc hc10
 clear hn hn2 hm hm2 H H2 hM h1 h6 hc1 hR hSS hW
 go_enter Tryz.func157,Tryz.ntmps157
 go_wp2_with (go_at_call 182;refine HST.out.mono ?_;rintro e w1 ⟨v1,rfl,hT,hb1⟩;refine Stop.of ?_)
 refine Stop.go ?_
 obtain⟨vs,hvo,_⟩:=id hT
 obtain⟨ta,tc,rfl⟩:=zAC hvo
 have hTR:=hT.rows rfl (fun r hr=>by have:=HSL.out r hr;unfold maxLen;omega)
 have HTR:=hid hTR
 have HB1:=hid hb1
 have hsc:=HSC.out
 clear hT hvo hTR hb1 hc hb HST
 go_wp2
 go_loopw [5,16] (fun v i wr=>∃k:Nat,k<=SS.length∧i=.int .i64 k∧zKE wr w1.heap.size v ((SS.take k).filterMap (fitF M y))∧Below w1.heap.size w1 wr) (fun _ i _=>SS.length-(intOf i).toNat)
 case atStart=>exact⟨0,yAK _,rfl,zKE.nil _ _,Below.refl _ _⟩
 case round=>
  obtain⟨k,hk,rfl,ho,hbk⟩:=hrel
  by_cases hlt:k<SS.length
  ·obtain⟨sb,so,sa,sn,sc,rfl,hsb,hsc',hsn,hsm,hsi⟩:=(HTR.out.below hbk) k hlt
   have hft:=zOZ (fitF M y) SS hlt
   have hsn10:sn<=1000:=by have:=HSL.out _ (yAH hlt);omega
   obtain⟨S,hS⟩:=exq (SS[k]'hlt)
   rw[<- hS]at hsn hsi hft
   have hfit:=HFT.out wr (zAA HB1.out hbk) sa sn sc S hsn hsn10 hsi
   have hcnt:((SS.take k).filterMap (fitF M y)).length<=20000:=by
    have h1:=yEL (fitF M y) (SS.take k)
    rw[yAU]at h1;omega
   obtain⟨C,hC⟩:=exq ((SS.take k).filterMap (fitF M y))
   rw[<- hC]at ho hft hcnt
   have HFI:=hid hfit
   have HFT2:=hid hft
   have HO:=hid ho
   have HBK:=hid hbk
   have HCN:=hid hcnt
   have hki:(k:Int)<(SS.length:Int):=by omega
   have hki0:(0:Int)<=(k:Int):=by omega
   clear hfit hft ho hbk hcnt hS hC hsn hsm hsi
   go_wp2_with (go_at_call 116;refine HFI.out.mono ?_;rintro e w2 ⟨⟨hno,rfl⟩|⟨f,us,ur,hf,rfl,hu,hr⟩,hb2⟩<;>refine Stop.of ?_)
   ·refine Stop.go ?_
    have hft2:=HFT2.out
    rw[hno]at hft2
    simp only[Option.toList_none,yBC]at hft2
    have HF2:=hid hft2
    have hba:∀o:Obj,Below wr.heap.size wr (w2.alloc o):=fun o=>hb2.alloc hb2.size o
    have HBA:=hid hba
    clear hno hft2 hba hb2
    go_wp2
    refine⟨⟨k+1,by omega,by go_num,?_,zAA HBK.out (HBA.out _)⟩,by simp[intOf];omega⟩
    rw[HF2.out];exact HO.out.below (HBA.out _)
   ·refine Stop.go ?_
    have hft2:=HFT2.out
    rw[hf]at hft2
    simp only[Option.toList_some]at hft2
    obtain⟨pa,pn,pc,rfl,_⟩:=id (hu 0)
    obtain⟨qa,qn,qc,rfl,_⟩:=id (hr 0)
    have hba:Below w2.heap.size w2 (w2.alloc (.cells #[.slice pa pn pc,.slice qa qn qc] 73)):=(Below.refl _ _).alloc (yAC _) _
    have hFO:=HO.out.below (zAA hb2 hba)
    obtain⟨xs,hoo,hoe⟩:=hFO
    obtain⟨va,vc,rfl⟩:=zAC hoo
    have hEI:=(hu w1.heap.size).keep (Keep.of_below hba:Keep (fun _=>True) _ _) (fun _ _ _ _=>trivial)
    have hEQ:=(hr w1.heap.size).below hba
    have HF2:=hid hft2
    have HOO:=hid hoo
    have HOE:=hid hoe
    have HEI:=hid hEI
    have HEQ:=hid hEQ
    have hBW:=zAA HBK.out (zAA hb2 hba)
    have HBW:=hid hBW
    have hnw:=news2 (w2.alloc (.cells #[.slice pa pn pc,.slice qa qn qc] 73)) (.slice pa pn pc) (.slice qa qn qc) 73
    rw[World.size_alloc]at hnw
    have HNW:=hid hnw
    have M1:=hid (show C.length+1<=maxLen by have:=HCN.out;unfold maxLen;omega)
    have M2:=hid (show(C.length+1)*48<=140737488355328 by have:=HCN.out;omega)
    have M3:=hid (yAF hBW.size (zCL _ (.cells #[.slice pa pn pc,.slice qa qn qc] 73)))
    have HONE:=hid (show ∀u∈[Value.slice pa pn pc,.slice qa qn qc],u.oneCell'=true from fun u hu=>by simp at hu;rcases hu with rfl|rfl<;>rfl)
    clear hf hft2 hba hoo hoe hEI hEQ hBW hnw hu hr hb2
    go_wp2_with (at_builtin;refine zAN _ rfl (.tmp 28) (.tmp 30) 87 rfl w1.heap.size 73 (.agg #[.slice none 0 0,.slice none 0 0]) 2 48 Tryz.underlying87 zMH rfl (by decide) (.slice va C.length vc) C.length xs rfl (HOO.out.alloc _) (some ⟨w2.heap.size+1,0,none⟩) 1 1 [.slice pa pn pc,.slice qa qn qc] rfl rfl zBS HNW.out HONE.out M1.out M2.out M3.out ?_;intro a9 c9 w9 own9 g9;refine Stop.of ?_)
    refine Stop.go ?_
    have hsn:=zKE.snoc (t:=f) HOO.out HOE.out HEI.out HEQ.out ((Below.refl _ _).alloc (yAC _) _) g9 own9
    have hB9:Below w1.heap.size w1 w9:=(HBW.out.alloc HBW.out.size _).grown g9 M3.out (fun g hg=>(HOO.out.lt g hg).1)
    rw[<- HF2.out]at hsn
    have HSN:=hid hsn
    have HB9:=hid hB9
    clear hsn hB9 own9 g9
    go_wp2
    exact⟨⟨k+1,by omega,by go_num,HSN.out,HB9.out⟩,by simp[intOf];omega⟩
  ·obtain rfl:k=SS.length:=by omega
   rw[yAL (yAC _),<- HAF.out]at ho
   have HO:=hid ho
   have HBK:=hid hbk
   clear ho hbk
   go_wp2
   go_ret
   exact⟨_,w1.heap.size,rfl,HB1.out.size,HO.out,zAA HB1.out HBK.out⟩
end
section
open Go.RowKit
def fitsR(M:Mask)(y:List Int)(k:Int):List FitT:=(allF M y).filter (fun f=>decide ((f.1.length:Int)<=k))
end
section
open Go.RowKit
theorem zQI{M:Mask}{y:List Int}{f:FitT}(h:f∈allF M y):zCI (zAD M) f.1∧f.2.length=f.1.length∧f.1.length<=zAD M:=by
 unfold allF at h
 obtain⟨S,hS,e⟩:=yFM.1 h
 obtain⟨h1,h2⟩:=fitF_len e
 rw[h1]
 exact⟨(zOO hS).2,h2,(zOO hS).1⟩
end
section
theorem lvls_fits(M:Mask)(y:List Int)(n:Nat):∀k,(lvls n k).filterMap (fitF M y)=zBT M y n (k+1)
 |0=>by
  rw[zCX]
  show(comb n 0 0).filterMap (fitF M y)=zBT M y n 0++_
  simp[zBT]
 |k+1=>by
  rw[zCX,<- lvls_fits M y n k]
  show(lvls n k++comb n (k+1) 0).filterMap (fitF M y)=_
  rw[yCS]
theorem allF_to(M:Mask)(y:List Int):allF M y=zBT M y (zAD M) (zAD M+1):=lvls_fits M y _ _
theorem fits_size{M:Mask}{y:List Int}{W j:Nat}{f:FitT}(h:f∈(comb W j 0).filterMap (fitF M y)):f.1.length=j:=by
 obtain⟨S,hS,e⟩:=yFM.1 h
 rw[(fitF_len e).1]
 exact zCG _ _ _ _ hS
theorem fits_cut(M:Mask)(y:List Int)(W k:Nat):∀t,(zBT M y W t).filter (fun f=>decide ((f.1.length:Int)<=(k:Int)))=zBT M y W (min t (k+1))
 |0=>by simp[zBT]
 |t+1=>by
  rw[zCX,yCK,fits_cut M y W k t]
  rcases yAP k t with h|h
  ·have h1:((comb W t 0).filterMap (fitF M y)).filter (fun f=>decide ((f.1.length:Int)<=(k:Int)))=[]:=by
    rw[List.filter_eq_nil_iff]
    intro f hf
    have:=fits_size hf
    simp;omega
   rw[h1,yBC,show min t (k+1)=k+1 by omega,show min (t+1) (k+1)=k+1 by omega]
  ·have h1:((comb W t 0).filterMap (fitF M y)).filter (fun f=>decide ((f.1.length:Int)<=(k:Int)))=(comb W t 0).filterMap (fitF M y):=by
    rw[List.filter_eq_self]
    intro f hf
    have:=fits_size hf
    simp;omega
   rw[h1,show min t (k+1)=t by omega,show min (t+1) (k+1)=t+1 by omega,zCX]
theorem fit_long{M:Mask}{y S:List Int}(h:M.length<S.length):fitF M y S=none:=by
 unfold fitF
 rw[if_neg]
 rintro⟨h0,_⟩
 unfold zCC at h0
 split at h0
 ·rename_i hc
  obtain⟨hM,hy,hyB,hS⟩:=zFV hc
  have hmo:=(zCR hM).1
  have hY:=(hmo.cols S).addY (y:=y) (by rw[zBA];exact hy) (Y:=1000000) (by decide) (fun v hv=>by
   unfold milB at hyB
   have:=yAT.1 hyB v hv
   unfold inB at this
   simp at this;omega)
  have hi:=zCO (zAJ (zAO M S) y) hY.wid S.length (fun j hj q=>zCF (by decide) (fun r hr=>hY.one r hr j hj) q)
  have hk:=hi.K_le
  rw[zEK (by rw[zBA];exact hy),zBA]at hk
  unfold zAX at h0
  simp only[]at h0
  split at h0
  ·simp at h0
  ·split at h0
   ·simp at h0
   ·omega
 ·rename_i hc;exact hc h0
theorem fits_long(M:Mask)(y:List Int)(W:Nat):∀d,zBT M y W (M.length+1+d)=zBT M y W (M.length+1)
 |0=>rfl
 |d+1=>by
  rw[show M.length+1+(d+1)=(M.length+1+d)+1 by omega,zCX,fits_long M y W d]
  have h1:(comb W (M.length+1+d) 0).filterMap (fitF M y)=[]:=by
   rw[List.filterMap_eq_nil_iff]
   intro S hS
   refine fit_long ?_
   rw[zCG _ _ _ _ hS];omega
  rw[h1,yBC]
theorem fits_same(M:Mask)(y:List Int)(k:Nat):fitsR M y (k:Int)=zBZ M y k:=by
 unfold fitsR zBZ
 rw[allF_to,fits_cut]
 rcases yAP M.length (min k (zAD M))with h|h
 ·obtain⟨d,hd⟩:∃d,min (zAD M+1) (k+1)=M.length+1+d:=⟨min (zAD M+1) (k+1)-(M.length+1),by omega⟩
  rw[hd,fits_long,show min (min k (zAD M)) M.length+1=M.length+1 by omega]
 ·rw[show min (zAD M+1) (k+1)=min (min k (zAD M)) M.length+1 by omega]
end
end Go.Proofs.YtlffndehhhpgjaaGreat
