/- Walks and plain laws for DualNormsRow, part 5. -/
import Derived.Maps.OwnIn
import Derived.Maps.AppendAt
import Derived.Laws.MakeOwn
import Derived.WalkSpells
import Derived.BigQuiet
import Derived.Test.YtlffndehhhpgjaaGreatPkDualNormsRow4
namespace Go.Proofs.YtlffndehhhpgjaaGreat
set_option linter.unusedVariables false
set_option linter.unusedSimpArgs false
set_option maxRecDepth 100000
set_option maxHeartbeats 4000000
section
open Go.RowKit
section
variable {P:Program} {ops:Array Oper} {Q:Exit->Act->World->Prop} {md:Region.Mode} {S:World->Prop}
theorem wpOp_inWide(n:Nat){i:Nat}{K:Act->World->Prop}{a:Act}{w:World}(hq:¬LetsOut Q)(h:wpOp P ops Q i K a w):wpOpIn Fence.wide n P ops Q i K a w:=by
 unfold wpOp at h
 unfold wpOpIn
 cases ho:ops[i]? with
 |none=>simpa[ho]using h
 |some o=>
  simp only[ho]at h⊢
  split
  ·rename_i hw
   simp only[hw,if_true]at h
   have h:=h.resolve_right (fun x=>hq x.2)
   refine⟨fun f _=>trivial,?_⟩
   rw[show Fence.wide.round=none from rfl,Oper.semAt_none]
   unfold Oper.wp at h
   generalize (execOp a.eval o).run P w=r at*
   cases r with
   |ok x w'=>
    cases x<;>simp only[Oper.upon,Oper.uponIn]at h⊢ <;>first
     |exact h
     |exact⟨fun h=>by simp[Fence.wide]at h,callsIn_wide.2 h⟩
     | (refine⟨fun h=>by simp[Fence.wide]at h,fun c cs _=>?_⟩
        obtain⟨v,w'',hr,hs⟩:=h c cs
        exact⟨v,w'',hr,(StepsIn.of_steps hs).mono fun m _=>fenced_wide P m⟩)
   |halt x w'=>cases x<;>simp only[Oper.upon,Oper.uponIn]at h⊢ <;>exact h
  ·rename_i hw
   simp only[hw]at h
   exact⟨fun f _=>trivial,h⟩
theorem AnyT.inWide{T:Nat->World->Prop}(n:Nat)(hq:¬LetsOut Q):∀(fuel:Nat) (listed:Array Bool) (a:Act) (w:World),
 AnyT P md ops Q T fuel listed a w->wpAnyIn Fence.wide n P md ops Q fuel listed a w
 |0,_,_,_,h=>h
 |fuel+1,_,_,_,h=>⟨h.1,fun i hi=>wpOpIn_mono (fun a' w' h'=>AnyT.inWide n hq fuel _ a' w' h'.2) (wpOp_inWide n hq (h.2 i hi))⟩
theorem wide_region(T:Nat->World->Prop)(n:Nat){id:Nat}{a:Act}{w:World}(hm:P.follows .mixedOrders=true)(hq:¬LetsOut Q)
 (h:AnyT P .any ops Q T ops.size (Array.replicate ops.size false) a w.drew):(Code.region id ops true).wpIn Fence.wide n P Q a w:=
 wpIn_region_any hm (AnyT.inWide n hq _ _ _ _ h)
end
def markL(hs:List Nat):List Deferred:=hs.map fun h=>{target:=.collected h,args:=#[]}
theorem zDT{F:Fence}{n:Nat}{P:Program}{fn:Func}{tmps:Array Value}{R:Ending->World->Prop}:∀(hs:List Nat) (w:World),hs.Nodup->(∀h∈hs,w.heap[h]? =some (.deferred (some [])))->
 (∀w',Keep (fun k=>k∉hs) w w'->LeavesIn F n P fn tmps R [] .returning w')->LeavesInM F n P fn tmps R (markL hs) .returning w
 | [],w,_,_,h=>h w (Keep.refl _ _)
 |k::hs,w,hd,hm,h=>by
  obtain⟨h1,h2⟩:=List.nodup_cons.1 hd
  refine⟨by simp[markL],.inl ⟨k,_,by rfl,run_takeDeferred (hm k (by simp)),?_⟩⟩
  refine zDT hs _ h2 (fun q hq=>(World.putObj_heap_other (by rintro rfl;exact h1 hq)).trans (hm q (by simp[hq]))) fun w' hk=>h w' ?_
  have hp:=Keep.put w k (.deferred none)
  refine⟨hk.os.trans hp.os,hk.tape.trans hp.tape,hk.output.trans hp.output,Nat.le_trans hp.size hk.size,fun i hi hs'=>?_⟩
  have hne:i≠k:=fun e=>hs' (by simp[e])
  exact(hk.block i (Nat.lt_of_lt_of_le hi hp.size) (fun h=>hs' (by simp[h]))).trans (World.putObj_heap_other hne)
def SetV(lo:Nat)(S:Nat->Prop)(x:List Int)(v:Value)(W:World):Prop:=∃a c,v=.slice a x.length c∧zAJ W a x∧∀b o,a=some ⟨b,o,none⟩->lo<=b
theorem SetV.keep{lo:Nat}{S:Nat->Prop}{x:List Int}{v:Value}{A B:World}{T:Nat->Prop}(h:SetV lo S x v A)(hk:Keep T A B)(hT:∀k,lo<=k->T k):SetV lo S x v B:=by
 obtain⟨a,c,e,hi,hb⟩:=h
 refine⟨a,c,e,fun j hj=>?_,hb⟩
 obtain⟨b,o,e2,hlt,hc⟩:=hi j hj
 exact⟨b,o,e2,Nat.lt_of_lt_of_le hlt hk.size,hk.cell hc (hT b (hb b o e2))⟩
theorem iter_setsS(w0:World)(n k kb nb:Nat)(hn:n<=1000)(hk:k<=1000)(hkb:kb<w0.heap.size)(hnb:nb<w0.heap.size)(hf0:w0.cell? ⟨kb,0,none⟩=some (.int .i64 k))(hf1:w0.cell? ⟨nb,0,none⟩=some (.int .i64 n)):
 IterS Tryz.prog 222 #[.pointer (some ⟨kb,0,none⟩),.pointer (some ⟨nb,0,none⟩)] SetV (comb n k 0) (fun q=>q=kb∨q=nb) w0:=by
 rcases Nat.eq_zero_or_pos k with rfl|h1
 ·intro l J Jx W hb hJx hJ hY h0
  have hxs:comb n 0 0=[[]]:=by unfold comb;rfl
  rw[hxs]at hY⊢
  have hg0:W.cell? ⟨kb,0,none⟩=some (.int .i64 0):=(hb.cell (p:=⟨kb,0,none⟩) hkb).trans hf0
  have hg1:W.cell? ⟨nb,0,none⟩=some (.int .i64 n):=(hb.cell (p:=⟨nb,0,none⟩) hnb).trans hf1
  have hkW:kb<W.heap.size:=Nat.lt_of_lt_of_le hkb hb.size
  have hnW:nb<W.heap.size:=Nat.lt_of_lt_of_le hnb hb.size
  have HJ:=hid hJ
  have HY:=hid hY
  have H0:=hid h0
  have HALL:=hid (all_c W 0 (by decide))
  clear hJ hJx hY h0 hf0 hf1 hb hxs
  refine callsIn_of_wp Tryz.func222 rfl trivial ?_ rfl
  simp only[Tryz.ntmps222,List.size_toArray,List.length_cons,List.length_nil,Nat.reduceAdd,Nat.reduceSub,Array.replicate_succ,Array.replicate_zero,List.push_toArray,List.append_toArray,List.nil_append,List.cons_append]
  gi_wp2_with (refine⟨trivial,rfl,?_⟩;gi_at_call 194;refine(callsIn_wide.2 HALL.out).mono ?_;rintro e w1 ⟨v,rfl,ho1,hb1⟩;refine Stop.of ?_)
  refine Stop.go ?_
  obtain⟨va,vc,rfl⟩:=zAH ho1
  have hVB:=zIJ ho1
  have hJ1:J (fun _=>False) [] w1:=HJ.out _ _ _ _ _ H0.out (fun _ h=>h) (fun _ h=>h.elim) (Keep.of_below hb1)
  have hc0:w1.cell? ⟨kb,0,none⟩=some (.int .i64 0):=(hb1.cell (p:=⟨kb,0,none⟩) hkW).trans hg0
  have hc1:w1.cell? ⟨nb,0,none⟩=some (.int .i64 n):=(hb1.cell (p:=⟨nb,0,none⟩) hnW).trans hg1
  have hyk:=HY.out (fun _=>False) [] [] (.slice va 0 vc) w1 (List.prefix_refl _) (fun _ h=>h.elim) hb1.size hJ1 ⟨va,vc,rfl,fun j hj=>by simp at hj,fun b o e=>(hVB b o e).1⟩
  have hn0:(0:Int)<=(n:Int):=by omega
  have HB1:=hid hb1
  clear ho1 hVB hJ1 HALL hb1
  gi_wp2
  refine wpIn_loop_once ?_
  obtain⟨fn,tmps,assign,body,hy,hR⟩:=hyk
  gi_wp2
  refine⟨rfl,hR.mono ?_⟩
  clear hR hy
  rintro e W3 ⟨⟨hs3,hk3⟩,⟨rfl,hJ3⟩|⟨rfl,hJx⟩⟩
  ·have hg30:W3.cell? ⟨kb,0,none⟩=some (.int .i64 0):=(World.cell?_of_block (a:=⟨kb,0,none⟩) (hk3 kb (Or.inl (Or.inl rfl)))).trans hc0
   have HJ3:=hid hJ3
   clear hJ3 hk3 hc0 hc1
   gi_wp2
   refine wpIn_loop_once ?_
   gi_wp2
   gi_quiet (fail)
   gi_wp2
   refine bodyPost_ret (results_none rfl _ _ _) rfl ?_
   exact⟨⟨_,rfl⟩,.inl ⟨fun _=>False,fun _ h=>h.elim,HJ.out _ _ _ _ _ HJ3.out (fun _ h=>h) (fun _ h=>h.elim) ((Keep.refl _ _).drewN _)⟩⟩
  ·gi_wp2
   refine bodyPost_ret (results_none rfl _ _ _) rfl ?_
   exact⟨⟨_,rfl⟩,.inr ⟨fun _=>False,[[]],List.prefix_refl _,hJx⟩⟩
 ·intro l J Jx W hb hJx hJ hY h0
  refine(iter_sets w0 n k kb nb hn hk h1 hkb hnb hf0 hf1 l (fun it pre X=>(pre=[]∧Keep (fun q=>q≠it) W X)∨(J (fun q=>q=it) pre X∧it<X.heap.size)) (fun pre X=>∃S,Jx S pre X) W hb ?_ ?_ ?_).mono ?_
  ·rintro it s A B _ (⟨e,hj⟩|⟨hj,hl⟩) hab
   ·exact .inl ⟨e,hj.trans hab⟩
   ·exact .inr ⟨hJ _ _ _ _ _ hj (fun _ h=>h) (fun _ h=>.inl h) hab,Nat.lt_of_lt_of_le hl hab.size⟩
  ·intro it pre x cap sp W1 hpre hit hit1 hj hrow
   have hj:J (fun q=>q=it) pre W1:=by
    rcases hj with⟨e,hj⟩|⟨hj,_⟩
    ·rw[e]
     exact hJ _ _ _ _ _ h0 (fun _ h=>h.elim) (fun q hq=>.inr (by rw[hq];exact hit)) hj
    ·exact hj
   have hsz:W.heap.size<=W1.heap.size:=by omega
   have:=hY (fun q=>q=it) pre x (.slice (some ⟨it,0,none⟩) x.length cap) W1 hpre (fun q hq=>by subst hq;exact⟨hit,hit1⟩) hsz hj ⟨_,_,rfl,ints_row hrow,fun b o e=>by simp only[Option.some.injEq,Addr.mk.injEq]at e;rw[<- e.1];exact hit⟩
   obtain⟨fn,tmps,assign,body,hy,hR⟩:=this
   refine⟨fn,tmps,assign,body,hy,hR.mono ?_⟩
   rintro e W3 ⟨⟨h2,h3⟩,⟨he,h1⟩|⟨he,h⟩⟩
   ·exact .inl ⟨he,.inr ⟨h1,Nat.lt_of_lt_of_le hit1 h2⟩,h2,h3⟩
   ·exact .inr ⟨he,_,h⟩
  ·intro it hit
   exact .inl ⟨rfl,Keep.refl _ _⟩
  ·rintro e W' ⟨hv,⟨it,hit,⟨e,hj⟩|⟨hj,hl⟩⟩|⟨pre,hpre,S,hj⟩⟩
   ·rw[e]
    refine⟨hv,.inl ⟨fun q=>q=it∧q<W'.heap.size,fun q hq=>by rw[hq.1];exact⟨hit,by have:=hq.2;rwa [hq.1]at this⟩,hJ _ _ _ _ _ h0 (fun _ h=>h.elim) (fun q hq=>.inr (by rw[hq.1];exact hit)) ?_⟩⟩
    exact⟨hj.os,hj.tape,hj.output,hj.size,fun i hi _=>hj.block i hi (fun e=>by omega)⟩
   ·exact⟨hv,.inl ⟨_,fun q hq=>by rw[hq];exact⟨hit,hl⟩,hj⟩⟩
   ·exact⟨hv,.inr ⟨_,_,hpre,hj⟩⟩
end
section
open Go.RowKit
attribute [local go_sem] Oper.semAt_some
theorem wide_regionK{P:Program}{ops:Array Oper}(T:Nat->World->Prop)(n:Nat){id:Nat}{a:Act}{w:World}{K:Act->World->Prop}{Q:Exit->Act->World->Prop}(hm:P.follows .mixedOrders=true)
 (h:AnyT P .any ops (Exit.then K (fun _ _ _=>False)) T ops.size (Array.replicate ops.size false) a w.drew):(Code.region id ops true).wpIn Fence.wide n P (Exit.then K Q) a w:=
 wpIn_mono (wide_region T n hm (fun⟨_,_,h⟩=>h) h) (by intro e a w h;cases e<;>first|exact h|exact h.elim)
theorem run_min3{P:Program}(u:Array TypeId)(t:TypeId)(x y z:Int)(w:World):(Builtin.min_ u t #[.int .i64 x,.int .i64 y,.int .i64 z]).run P w=.ok (.int .i64 (min (min x y) z)) w:=by
 have h1:Builtin.min_ u t #[.int .i64 x,.int .i64 y,.int .i64 z]=pure (.int .i64 (min (min x y) z)):=by
  unfold Builtin.min_
  simp only[List.foldlM,Builtin.min2,pure_bind]
  congr 2
  by_cases h:y<x
  ·rw[if_pos h];split<;>omega
  ·rw[if_neg h];split<;>omega
 rw[h1];rfl
structure FitsI (w0:World) (fp:Nat->Prop) (l:Nat) (J:(Nat->Prop)->List FitT->World->Prop) (lo:Nat) (pre:List FitT) (S:Nat->Prop) (hs:List Nat) (X:World):Prop where
 j:J S pre X
 s:∀k,S k->lo<=k
 y:S lo
 c:X.cell? ⟨lo,0,none⟩=some (.func (.yield l) #[] #[])
 f:∀k,fp k->k<lo∧X.heap[k]? =w0.heap[k]?
 z:lo<X.heap.size
 m:∀h∈hs,S h∧X.heap[h]? =some (.deferred (some []))
theorem FitsI.keep{w0:World}{fp:Nat->Prop}{l lo:Nat}{J:(Nat->Prop)->List FitT->World->Prop}{pre:List FitT}{S S':Nat->Prop}{hs:List Nat}{A B:World}
 (hJ:∀S S' s A B,J S s A->(∀k,S k->S' k)->(∀k,S' k->S k∨A.heap.size<=k)->Keep (fun k=>¬S' k) A B->J S' s B)
 (h:FitsI w0 fp l J lo pre S hs A)(h1:∀k,S k->S' k)(h2:∀k,S' k->S k∨A.heap.size<=k){T:Nat->Prop}(hk:Keep T A B)(hT:∀k,k<A.heap.size->¬S' k->T k)(hTl:T lo)(hTm:∀h∈hs,T h):
 FitsI w0 fp l J lo pre S' hs B where
 j:=hJ _ _ _ _ _ h.j h1 h2 ⟨hk.os,hk.tape,hk.output,hk.size,fun i hi hs=>hk.block i hi (hT i hi hs)⟩
 s:=fun k hk'=>by
  rcases h2 k hk' with h3|h3
  ·exact h.s k h3
  ·have:=h.z;omega
 y:=h1 _ h.y
 c:=hk.cell h.c hTl
 f:=fun k hk'=>by
  obtain⟨h3,h4⟩:=h.f k hk'
  refine⟨h3,(hk.block k (Nat.lt_trans h3 h.z) ?_).trans h4⟩
  refine hT k (Nat.lt_trans h3 h.z) fun h5=>?_
  rcases h2 k h5 with h6|h6
  ·have:=h.s k h6;omega
  ·have:=h.z;omega
 z:=Nat.lt_of_lt_of_le h.z hk.size
 m:=fun q hq=>by
  obtain⟨h3,h4⟩:=h.m q hq
  exact⟨h1 _ h3,(hk.block q (Array.getElem?_eq_some_iff.1 h4).1 (hTm q hq)).trans h4⟩
theorem FitsI.step{w0:World}{fp:Nat->Prop}{l lo:Nat}{J J':(Nat->Prop)->List FitT->World->Prop}{pre pre':List FitT}{S:Nat->Prop}{hs:List Nat}{A B C:World}
 (h:FitsI w0 fp l J lo pre S hs A)(hS:∀k,S k->k<A.heap.size)(hb:Below A.heap.size A B)(hz:B.heap.size<=C.heap.size)(hk:∀k,fp k∨S k->C.heap[k]? =B.heap[k]?)(hj:J' S pre' C):FitsI w0 fp l J' lo pre' S hs C where
 j:=hj
 s:=h.s
 y:=h.y
 c:=(World.cell?_of_block (a:=⟨lo,0,none⟩) (hk lo (.inr h.y))).trans ((hb.cell (p:=⟨lo,0,none⟩) h.z).trans h.c)
 f:=fun k hk'=>by
  obtain⟨h3,h4⟩:=h.f k hk'
  exact⟨h3,(hk k (.inl hk')).trans ((hb.block k (Nat.lt_trans h3 h.z)).trans h4)⟩
 z:=Nat.lt_of_lt_of_le h.z (Nat.le_trans hb.size hz)
 m:=fun q hq=>by
  obtain⟨h3,h4⟩:=h.m q hq
  exact⟨h3,(hk q (.inr h3)).trans ((hb.block q (hS q h3)).trans h4)⟩
theorem zFV(M:Mask)(y:List Int)(W t:Nat):∀d,zBG M y W t <+: zBG M y W (t+d)
 |0=>List.prefix_refl _
 |d+1=>by
  rw[show t+(d+1)=(t+d)+1 by omega,zBT]
  exact(zFV M y W t d).trans (List.prefix_append _ _)
theorem zJQ{M:Mask}{y:List Int}{W t N:Nat}{pre:List (List Int)}(ht:t<N+1)(hp:pre <+: comb W t 0):
 zBG M y W t++pre.filterMap (fitF M y) <+: zBG M y W (N+1):=by
 obtain⟨r,hr⟩:=hp
 have h1:zBG M y W t++pre.filterMap (fitF M y) <+: zBG M y W (t+1):=by
  rw[zBT,<- hr,List.filterMap_append]
  exact⟨r.filterMap (fitF M y),by rw[List.append_assoc]⟩
 obtain⟨d,rfl⟩:∃d,N=t+d:=⟨N-t,by omega⟩
 exact h1.trans (by rw[show t+d+1=t+1+d by omega];exact zFV M y W (t+1) d)
theorem fitsTo_in{M:Mask}{y:List Int}{W t N:Nat}{pre:List (List Int)}{x:List Int}{f:FitT}(ht:t<N+1)(hp:pre++[x] <+: comb W t 0)(hf:fitF M y x=some f):
 (zBG M y W t++pre.filterMap (fitF M y))++[f] <+: zBG M y W (N+1):=by
 have e:(zBG M y W t++pre.filterMap (fitF M y))++[f]=zBG M y W t++(pre++[x]).filterMap (fitF M y):=by
  simp[List.filterMap_append,hf]
 rw[e]
 exact zJQ ht hp
theorem FitV.own{lo lo2:Nat}{S:Nat->Prop}{f:FitT}{v:Value}{A B:World}(h:FitV lo (fun _=>False) f v A)(hb:Below A.heap.size A B)(hl:lo2<=lo)(hS:∀q,S q->q<lo):FitV lo2 S f v B:=by
 obtain⟨pa,pn,pc,va,vn,vc,e,h1,h2,h3,h4,h5,h6,h7,h8⟩:=h
 refine⟨pa,pn,pc,va,vn,vc,e,h1,h2,h3,h4,h5.below hb,h6.below hb,fun b o e=>?_,fun b o e=>?_⟩
 ·obtain⟨g1,g2,_,c,z,g4⟩:=h7 b o e
  exact⟨Nat.le_trans hl g1,Nat.lt_of_lt_of_le g2 hb.size,fun h=>by have:=hS b h;omega,c,z,(hb.block b g2).trans g4⟩
 ·obtain⟨g1,g2,_,c,z,g4⟩:=h8 b o e
  exact⟨Nat.le_trans hl g1,Nat.lt_of_lt_of_le g2 hb.size,fun h=>by have:=hS b h;omega,c,z,(hb.block b g2).trans g4⟩
theorem fits_iter(w0:World)(fp:Nat->Prop)(k kb qb:Nat)(a a2:Option Addr)(n cap n2 cap2:Nat)(M:Mask)(y:List Int)(hn:M.length=n)(hn2:y.length=n2)(hm:n<=maxLen)(hm2:n2<=maxLen)(h1:1<=n)(hW:zAL M<=1000)(hk:k<=1000)
 (hfp:∀q,fp q->q<w0.heap.size)(hkb:fp kb)(hqb:fp qb)(hck:w0.cell? ⟨kb,0,none⟩=some (.int .i64 k))(hcq:w0.heap[qb]? =some (.cells #[.slice a n cap,.slice a2 n2 cap2] 216 (0,0)))
 (hR:∀X:World,w0.heap.size<=X.heap.size->(∀q,fp q->X.heap[q]? =w0.heap[q]?)->zAT X a M∧zAJ X a2 y):
 IterS Tryz.prog 254 #[.pointer (some ⟨kb,0,none⟩),.pointer (some ⟨qb,0,none⟩)] FitV (zBV M y k) fp w0:=by
 intro l J Jx W hb hJx hJ hY h0
 have hkW:kb<W.heap.size:=Nat.lt_of_lt_of_le (hfp _ hkb) hb.size
 have hqW:qb<W.heap.size:=Nat.lt_of_lt_of_le (hfp _ hqb) hb.size
 have hFW:∀q,fp q->W.heap[q]? =w0.heap[q]? :=fun q hq=>hb.block q (hfp q hq)
 have HJ:=hid hJ
 have HJx:=hid hJx
 have HY:=hid hY
 have H0:=hid h0
 have HFW:=hid hFW
 have HR:=hid hR
 have HFP:=hid hfp
 have HB:=hid hb
 have HK:=hid (show ∀X:World,(∀q,fp q->X.heap[q]? =w0.heap[q]?)->X.cell? ⟨kb,0,none⟩=some (.int .i64 k)from fun X hX=>(World.cell?_of_block (a:=⟨kb,0,none⟩) (hX kb hkb)).trans hck)
 have HQ:=hid (show ∀X:World,(∀q,fp q->X.heap[q]? =w0.heap[q]?)->X.heap[qb]? =some (.cells #[.slice a n cap,.slice a2 n2 cap2] 216 (0,0))from fun X hX=>(hX qb hqb).trans hcq)
 clear hJ hJx hY h0 hFW hck hcq hR hfp hb hkb hqb
 refine callsIn_of_wp_marks Tryz.func254 rfl trivial ?_ rfl
 simp only[Tryz.ntmps254,List.size_toArray,List.length_cons,List.length_nil,Nat.reduceAdd,Nat.reduceSub,Array.replicate_succ,Array.replicate_zero,List.push_toArray,List.append_toArray,List.nil_append,List.cons_append]
 gi_wp2
 obtain⟨w1,hw1⟩:=exq (W.alloc (.cells #[.func (.yield l) #[] #[]] 233))
 rw[<- hw1]
 have hs1:w1.heap.size=W.heap.size+1:=by rw[hw1];simp
 have hF1:∀q,fp q->w1.heap[q]? =w0.heap[q]? :=fun q hq=>by
  rw[hw1,Below.heap_alloc _ _ _ (Nat.lt_of_lt_of_le (HFP.out q hq) HB.out.size)];exact HFW.out q hq
 have hc1:w1.cell? ⟨W.heap.size,0,none⟩=some (.func (.yield l) #[] #[]):=by rw[hw1,World.cell?_alloc_at _ _ _ _ rfl];rfl
 have HB1:=hid (show Below W.heap.size W w1 by rw[hw1];exact(Below.refl _ _).alloc (Nat.le_refl _) _)
 obtain⟨w2,hw2⟩:=exq (w1.drew)
 have HF1:=hid hF1
 have HC1:=hid hc1
 have HS1:=hid hs1
 clear hs1 hF1 hc1
 refine wide_regionK (fun j w'=>decide (j<9)=true->(∀q,q<W.heap.size+1->w'.heap[q]? =w1.heap[q]?)∧W.heap.size+1<=w'.heap.size∧w'.cell? ⟨kb,0,none⟩=some (.int .i64 k)∧w'.cell? ⟨qb,0,none⟩=some (.slice a n cap)∧w'.cell? ⟨qb,1,none⟩=some (.slice a2 n2 cap2)) 0 (by kernel_rfl) ?_
 rw[<- hw2]
 have hF2:∀q,fp q->w2.heap[q]? =w0.heap[q]? :=fun q hq=>by rw[hw2];exact HF1.out q hq
 have HS:=hid (show ∀X:World,(∀q,q<W.heap.size+1->X.heap[q]? =w1.heap[q]?)->W.heap.size+1<=X.heap.size->(∀q,q<W.heap.size+1->X.heap[q]? =w1.heap[q]?)∧W.heap.size+1<=X.heap.size∧X.cell? ⟨kb,0,none⟩=some (.int .i64 k)∧X.cell? ⟨qb,0,none⟩=some (.slice a n cap)∧X.cell? ⟨qb,1,none⟩=some (.slice a2 n2 cap2)from fun X hX hs=>by
  have hF:∀q,fp q->X.heap[q]? =w0.heap[q]? :=fun q hq=>(hX q (by have:=HFP.out q hq;have:=HB.out.size;omega)).trans (HF1.out q hq)
  have hq:=HQ.out X hF
  exact⟨hX,hs,HK.out X hF,by simp[World.cell?,hq],by simp[World.cell?,hq]⟩)
 have h2:=HS.out w2 (fun q _=>by rw[hw2];rfl) (by rw[hw2];exact Nat.le_of_eq HS1.out.symm)
 refine AnyT.tD (i:=0) (v:=.int .i64 k) rfl rfl (by rintro w' ⟨_,_,q5,q6,q7⟩;go_simp) h2 ?_;go_frame
 refine AnyT.tD (i:=1) (v:=.agg #[.slice a n cap,.slice a2 n2 cap2]) rfl rfl (by rintro w' ⟨_,_,q5,q6,q7⟩;go_simp) h2 ?_;go_frame
 refine AnyT.tD (i:=3) (v:=.pointer (some ⟨qb,0,none⟩)) rfl rfl (by rintro w' q5;go_simp) h2 ?_;go_frame
 refine AnyT.tD (i:=4) (v:=.slice a n cap) rfl rfl (by rintro w' ⟨_,_,q5,q6,q7⟩;go_simp) h2 ?_;go_frame
 refine AnyT.tD (i:=5) (v:=.int .i64 n) rfl rfl (by rintro w' q5;go_simp) h2 ?_;go_frame
 refine AnyT.tD (i:=8) (v:=.int .i64 0) rfl rfl (by rintro w' q5;go_simp) h2 ?_;go_frame
 refine AnyT.nx (i:=2) rfl ?_
 have HPX:=hid (fun(X:World) (h:zAT X a M)=>qpixels_c X a a2 n cap n2 cap2 M hn h1 h)
 have HR2:=hid (show zAT w2 a M from(HR.out w2 (Nat.le_trans HB.out.size (Nat.le_trans (Nat.le_succ _) h2.2.1)) hF2).1)
 have hB2:Below W.heap.size W w2:=by rw[hw2];exact HB1.out.drew
 clear hF2 hw2 hw1
 go_wp2_with (go_at_call 255;go_loud (refine(HPX.out w2 HR2.out).mono ?_;rintro e w3 ⟨rfl,hb3⟩;refine Stop.of ?_))
 refine Stop.go ?_
 have h3:=HS.out w3 (fun q hq=>(hb3.block q (Nat.lt_of_lt_of_le hq h2.2.1)).trans (h2.1 q hq)) (Nat.le_trans h2.2.1 hb3.size)
 go_wp2
 refine⟨fun _=>h3,?_⟩
 obtain⟨Wn,hWn⟩:=exq (zAL M)
 rw[<- hWn]at hW⊢
 obtain⟨N,hN⟩:∃N:Nat,N=min (min k Wn) n:=⟨_,rfl⟩
 have HN:=hid (show zBV M y k=zBG M y Wn (N+1)by rw[hN,hWn,<- hn];rfl)
 have HWn:=hid hWn
 have hNc:min (min (k:Int) (Wn:Int)) (n:Int)=(N:Int):=by omega
 have HNC:=hid hNc
 have HN1:=hid (show N<=1000 by omega)
 clear hNc hN hWn
 refine AnyT.tD (i:=6) (v:=.int .i64 N) rfl rfl (by rintro w' hw';go_simp;rw[run_min3,HNC.out];rfl) h3 ?_;go_frame
 have HW9:=hid (show IntKind.i64.wrap ((N:Int)+1)=(N:Int)+1 from IntWalk.i64_in _ (by have:=HN1.out;omega))
 refine AnyT.tD (i:=7) (v:=.int .i64 ((N:Int)+1)) rfl rfl (by rintro w' hw';go_simp;exact HW9.out) h3 ?_;go_frame
 refine⟨by kernel_rfl,?_⟩
 have H3:=hid h3
 have HB3:=hid (zAA hB2 hb3)
 clear h2 h3 hB2 hb3
 gi_wp2
 obtain⟨I,hI⟩:∃I:Act->World->Prop,I=(fun a' X=>∃(u4 u5 u6 u7 u8 u9 u10 u11 u12 u13 u14 u17 u18 u19 u20 u21 u22 u23 u24 u25 u26 u27 u28 u29 u30 u31 u32 u33 u34 u35 u36 u37:Value),∃(t:Nat) (S:Nat->Prop) (hs:List Nat),t<=N+1∧FitsI w0 fp l J W.heap.size (zBG M y Wn t) S hs X∧(∀k,S k->k<X.heap.size)∧hs.Nodup∧
  a'=⟨#[.func (.yield l) #[] #[],.pointer (some ⟨kb,0,none⟩),.pointer (some ⟨qb,0,none⟩),.pointer (some ⟨W.heap.size,0,none⟩),u4,u5,u6,u7,u8,u9,u10,u11,u12,u13,u14,.int .i64 ((N:Int)+1),.int .i64 t,u17,u18,u19,u20,u21,u22,u23,u24,u25,u26,u27,u28,u29,u30,u31,u32,u33,u34,u35,u36,u37],markL hs⟩):=⟨_,rfl⟩
 have HI:=hid hI
 clear hI
 obtain⟨mu,hmu⟩:∃mu:Act->World->Nat,mu=(fun a' _=>N+1-(intOf (a'.tmps.getD 16 undef)).toNat):=⟨_,rfl⟩
 have HMU:=hid hmu
 clear hmu
 refine wpIn_loop I mu ?_ ?_
 ·rw[HI.out]
  refine⟨_,_,_,_,_,_,_,_,_,_,_,_,_,_,_,_,_,_,_,_,_,_,_,_,_,_,_,_,_,_,_,_,0,(fun q=>q=W.heap.size),[],Nat.zero_le _,?_,?_,List.nodup_nil,rfl⟩
  ·refine⟨?_,?_,rfl,?_,?_,?_,?_⟩
   ·exact HJ.out _ _ _ _ _ H0.out (fun _ h=>h.elim) (fun q hq=>.inr (Nat.le_of_eq (Eq.symm hq))) (Keep.of_below HB3.out)
   ·intro q hq;exact Nat.le_of_eq (Eq.symm hq)
   ·exact(World.cell?_of_block (a:=⟨W.heap.size,0,none⟩) (H3.out.1 _ (Nat.lt_succ_self _))).trans HC1.out
   ·intro q hq
    have hql:=Nat.lt_of_lt_of_le (HFP.out q hq) HB.out.size
    exact⟨hql,(H3.out.1 q (Nat.lt_succ_of_lt hql)).trans (HF1.out q hq)⟩
   ·exact H3.out.2.1
   ·intro h hh;cases hh
  ·intro q hq;rw[hq];exact H3.out.2.1
 ·intro a' X hIX
  rw[HI.out]at hIX
  obtain⟨u4,hIX⟩:=hIX;obtain⟨u5,hIX⟩:=hIX;obtain⟨u6,hIX⟩:=hIX;obtain⟨u7,hIX⟩:=hIX;obtain⟨u8,hIX⟩:=hIX;obtain⟨u9,hIX⟩:=hIX;obtain⟨u10,hIX⟩:=hIX;obtain⟨u11,hIX⟩:=hIX;obtain⟨u12,hIX⟩:=hIX;obtain⟨u13,hIX⟩:=hIX;obtain⟨u14,hIX⟩:=hIX;obtain⟨u17,hIX⟩:=hIX;obtain⟨u18,hIX⟩:=hIX;obtain⟨u19,hIX⟩:=hIX;obtain⟨u20,hIX⟩:=hIX;obtain⟨u21,hIX⟩:=hIX;obtain⟨u22,hIX⟩:=hIX;obtain⟨u23,hIX⟩:=hIX;obtain⟨u24,hIX⟩:=hIX;obtain⟨u25,hIX⟩:=hIX;obtain⟨u26,hIX⟩:=hIX;obtain⟨u27,hIX⟩:=hIX;obtain⟨u28,hIX⟩:=hIX;obtain⟨u29,hIX⟩:=hIX;obtain⟨u30,hIX⟩:=hIX;obtain⟨u31,hIX⟩:=hIX;obtain⟨u32,hIX⟩:=hIX;obtain⟨u33,hIX⟩:=hIX;obtain⟨u34,hIX⟩:=hIX;obtain⟨u35,hIX⟩:=hIX;obtain⟨u36,hIX⟩:=hIX;obtain⟨u37,hIX⟩:=hIX
  obtain⟨t,S,hs,ht,hX,hSX,hnd,rfl⟩:=hIX
  have HX:=hid hX
  have HSX:=hid hSX
  have HND:=hid hnd
  by_cases hlt:t<N+1
  ·have hlt':(t:Int)<(N:Int)+1:=by omega
   have hXF:∀q,fp q->X.heap[q]? =w0.heap[q]? :=fun q hq=>(hX.f q hq).2
   have hXz:W.heap.size<X.heap.size:=hX.z
   have hq0:X.cell? ⟨qb,0,none⟩=some (.slice a n cap):=by have hq:=HQ.out X hXF;simp[World.cell?,hq]
   have hq1:X.cell? ⟨qb,1,none⟩=some (.slice a2 n2 cap2):=by have hq:=HQ.out X hXF;simp[World.cell?,hq]
   have HPQ:=hid (HPX.out X (HR.out X (Nat.le_trans HB.out.size (Nat.le_of_lt hXz)) hXF).1)
   clear hX hSX hnd hXF
   gi_wp2_with (refine⟨trivial,rfl,?_⟩;gi_at_call 255;refine(callsIn_wide.2 HPQ.out).mono ?_;rintro e Y ⟨rfl,hbY⟩;refine Stop.of ?_)
   refine Stop.go ?_
   rw[<- HWn.out]
   gi_wp2_with (refine⟨trivial,rfl,?_⟩;gi_at_call 178;refine(callsIn_wide.2 (sets_c _ _ _)).mono ?_;rintro e w' ⟨rfl,rfl⟩;refine Stop.of ?_)
   refine Stop.go ?_
   obtain⟨wL,hwL⟩:=exq ((Y.alloc (.cells #[.int .i64 Wn] 3)).alloc (.cells #[.int .i64 t] 3))
   have hsz:wL.heap.size=Y.heap.size+2:=by rw[hwL];simp
   have hbL:Below Y.heap.size Y wL:=by rw[hwL];exact((Below.refl _ Y).alloc (Nat.le_refl _) _).alloc (by simp) _
   have hZ0:Boxed wL Y.heap.size 3 (.int .i64 Wn):=by rw[hwL];exact(Boxed.new Y 3 (.int .i64 (Wn:Int))).alloc _
   have hZ1:Boxed wL (Y.heap.size+1) 3 (.int .i64 (t:Int)):=by
    rw[hwL]
    have h1:=Boxed.new (Y.alloc (.cells #[.int .i64 (Wn:Int)] 3)) 3 (.int .i64 (t:Int))
    rwa [World.size_alloc]at h1
   have hF0:=hZ1.cell
   have hF1:=hZ0.cell
   rw[<- hwL]
   have hbXL:=zAA hbY hbL
   have HBXL:=hid hbXL
   have HSZ:=hid hsz
   have hXY:=hbY.size
   have HXY:=hid hXY
   clear hwL hq0 hq1 hZ0 hZ1 hbXL hbY
   have ht1k:t<=1000:=by have:=HN1.out;omega
   gi_wp2
   obtain⟨T,hT⟩:∃T:(Nat->Prop)->Nat->Prop,T=fun Sr q=>S q∨q=Y.heap.size∨q=Y.heap.size+1∨q=wL.heap.size∨q=wL.heap.size+1∨Sr q:=⟨_,rfl⟩
   refine range_s (gf:=222) (lb:=#[.pointer (some ⟨Y.heap.size+1,0,none⟩),.pointer (some ⟨Y.heap.size,0,none⟩)]) (xs:=comb Wn t 0) (fp:=fun k=>k=Y.heap.size+1∨k=Y.heap.size) (V:=SetV) rfl (enters_of Tryz.func222 (by kernel_rfl) rfl)
    (iter_setsS wL Wn t (Y.heap.size+1) Y.heap.size hW ht1k (by omega) (by omega) hF0 hF1) (Below.refl _ _) (by intro k hk;omega)
    (fun Sr pre Z=>FitsI w0 fp l J W.heap.size (zBG M y Wn t++pre.filterMap (fitF M y)) (T Sr) hs Z)
    (fun Sr c pre Z=>c=.ret∧FitsI w0 fp l Jx W.heap.size (zBG M y Wn t++pre.filterMap (fitF M y)) (T Sr) hs Z) ?hI ?hIx ?hV ?h0 (fun v a' Z=>a'={tmps:=#[.func (.yield l) #[] #[],.pointer (some ⟨kb,0,none⟩),.pointer (some ⟨qb,0,none⟩),.pointer (some ⟨W.heap.size,0,none⟩),.int .i64 t,v,u6,u7,u8,u9,u10,u11,u12,u13,u14,.int .i64 ((N:Int)+1),.int .i64 t,.bool true,.int .i64 t,.agg #[.slice a n cap,.slice a2 n2 cap2],.int .i64 Wn,.int .i64 t,.func (.func 222) #[] #[.pointer (some ⟨Y.heap.size+1,0,none⟩),.pointer (some ⟨Y.heap.size,0,none⟩)],v,u24,u25,u26,u27,u28,u29,u30,u31,u32,u33,u34,u35,u36,u37],defers:=[]}) ?hAx ?hassign ?hbody ?hdone ?hstop
   case hI=>
    intro Sr Sr' s A B hIA h1 h2 h3 h4 hk
    refine hIA.keep HJ.out ?_ ?_ hk ?_ ?_ ?_
    ·rw[hT];rintro q (h|h|h|h|h|h)<;>simp[h,h1]
    ·rw[hT];rintro q (h|h|h|h|h|h)
     ·exact .inl (.inl h)
     ·exact .inl (.inr (.inl h))
     ·exact .inl (.inr (.inr (.inl h)))
     ·exact .inl (.inr (.inr (.inr (.inl h))))
     ·exact .inl (.inr (.inr (.inr (.inr (.inl h)))))
     ·rcases h2 q h with h|h
      ·exact .inl (.inr (.inr (.inr (.inr (.inr h)))))
      ·exact .inr h
    ·rw[hT];intro q _ hq;simp only[not_or]at hq;exact⟨hq.2.2.2.1,hq.2.2.2.2.1,hq.2.2.2.2.2⟩
    ·exact⟨by omega,by omega,fun h=>by have:=h3 _ h;omega⟩
    ·intro q hq
     have:=HSX.out q (HX.out.m q hq).1
     exact⟨by omega,by omega,fun h=>by have:=h3 _ h;omega⟩
   case hIx=>
    rintro Sr Sr' c s A B ⟨hc,hIA⟩ h1 h2 h3 h4 hk
    refine⟨hc,hIA.keep HJx.out ?_ ?_ hk ?_ ?_ ?_⟩
    ·rw[hT];rintro q (h|h|h|h|h|h)<;>simp[h,h1]
    ·rw[hT];rintro q (h|h|h|h|h|h)
     ·exact .inl (.inl h)
     ·exact .inl (.inr (.inl h))
     ·exact .inl (.inr (.inr (.inl h)))
     ·exact .inl (.inr (.inr (.inr (.inl h))))
     ·exact .inl (.inr (.inr (.inr (.inr (.inl h)))))
     ·rcases h2 q h with h|h
      ·exact .inl (.inr (.inr (.inr (.inr (.inr h)))))
      ·exact .inr h
    ·rw[hT];intro q _ hq;simp only[not_or]at hq;exact⟨hq.2.2.2.1,hq.2.2.2.2.1,hq.2.2.2.2.2⟩
    ·exact⟨by omega,by omega,fun h=>by have:=h3 _ h;omega⟩
    ·intro q hq
     have:=HSX.out q (HX.out.m q hq).1
     exact⟨by omega,by omega,fun h=>by have:=h3 _ h;omega⟩
   case hV=>
    intro Sr x v A B hv hk
    exact hv.keep hk (fun k hk=>⟨by omega,by omega⟩)
   case h0=>
    intro Z hk hZ
    rw[List.filterMap_nil,List.append_nil]
    refine HX.out.keep HJ.out ?_ ?_ ((Keep.of_below HBXL.out).trans hk) ?_ ?_ ?_
    ·rw[hT];intro q h;simp[h]
    ·rw[hT];rintro q (h|h|h|h|h|h)
     ·exact .inl h
     ·exact .inr (by omega)
     ·exact .inr (by omega)
     ·exact .inr (by omega)
     ·exact .inr (by omega)
     ·exact h.elim
    ·intro q hq _;omega
    ·omega
    ·intro q hq
     have:=HSX.out q (HX.out.m q hq).1
     omega
   case hAx=>
    intro v a' A B h _;exact h
   case hassign=>
    intro l' Sr x v Z K hZ hv hK
    gi_wp2
    exact hK _ _ (Below.refl _ _) rfl
   case hbody=>
    rintro l' Sr pre x v _ Z hpre hSr hIZ hv rfl hZ _ _
    obtain⟨xa,xc,rfl,hxi,hxb⟩:=hv
    have hxm:x∈comb Wn t 0:=hpre.subset (by simp)
    have hxl:x.length=t:=zCK _ _ _ x hxm
    have hZF:∀q,fp q->Z.heap[q]? =w0.heap[q]? :=fun q hq=>(hIZ.f q hq).2
    have hZz:W.heap.size<Z.heap.size:=hIZ.z
    have hzq0:Z.cell? ⟨qb,0,none⟩=some (.slice a n cap):=by have hq:=HQ.out Z hZF;simp[World.cell?,hq]
    have hzq1:Z.cell? ⟨qb,1,none⟩=some (.slice a2 n2 cap2):=by have hq:=HQ.out Z hZF;simp[World.cell?,hq]
    have hzy:Z.cell? ⟨W.heap.size,0,none⟩=some (.func (.yield l) #[] #[]):=hIZ.c
    obtain⟨hRZ,hIY⟩:=HR.out Z (Nat.le_trans HB.out.size (Nat.le_of_lt hZz)) hZF
    have HFIT:=hid (fit_c Z a a2 xa n cap n2 cap2 x.length xc M y x hn hn2 rfl hm hm2 (by rw[hxl];exact ht1k) hRZ hIY hxi)
    have HIZ:=hid hIZ
    have HT:=hid hT
    have HSR:=hid hSr
    have HPRE:=hid hpre
    have hYs:=hbL.size
    have HTB:=hid (show ∀q,T Sr q->q<Z.heap.size by
     rw[hT];rintro q (h|h|h|h|h|h)
     ·have:=HSX.out q h;omega
     ·omega
     ·omega
     ·omega
     ·omega
     ·exact(hSr q h).2)
    clear hYs
    have hqZ:qb<Z.heap.size:=World.block_lt_of_cell? Z ⟨qb,0,none⟩ hzq0
    clear hRZ hIY hIZ hT hSr hpre hxm hxl hZF hxi hxb hF0 hF1
    cases hF:fitF M y x with
    |none=>
     rw[hF]at HFIT
     have HF:=hid hF
     clear hF
     gi_wp2_with (refine⟨trivial,rfl,?_⟩;gi_at_call 256;refine(CallsIn.inRound l' (callsIn_wide.2 HFIT.out)).mono ?_;rintro e Z2 ⟨⟨_,rfl⟩|⟨f,fv,hso,_⟩,hb2⟩;rotate_left;cases hso;refine Stop.of ?_)
     refine Stop.go ?_
     gi_wp2
     refine⟨fun _ h=>(by cases h),?_⟩
     gi_wp2
     have hbF:=zAA hb2 ((Below.refl Z2.heap.size Z2).alloc (Nat.le_refl _) (.cells #[.slice none 0 0,.slice none 0 0] 73))
     refine⟨hbF.size,fun q hq=>hbF.block q (HTB.out q (by rw[HT.out];exact .inr (by rcases hq with (hq|hq)|hq|hq|hq<;>simp[hq]))),?_⟩
     show FitsI w0 fp l J W.heap.size (zBG M y Wn t++(pre++[x]).filterMap (fitF M y)) (T Sr) hs _
     rw[List.filterMap_append,List.filterMap_cons_none HF.out,List.filterMap_nil,List.append_nil]
     exact HIZ.out.keep HJ.out (fun _ h=>h) (fun _ h=>.inl h) (Keep.of_below hbF:Keep (fun _=>True) Z _) (fun _ _ _=>trivial) trivial (fun _ _=>trivial)
    |some f=>
     rw[hF]at HFIT
     have HF:=hid hF
     clear hF
     gi_wp2_with (refine⟨trivial,rfl,?_⟩;gi_at_call 256;refine(CallsIn.inRound l' (callsIn_wide.2 HFIT.out)).mono ?_;rintro e Z2 ⟨⟨hno,_⟩|⟨f',fv,hso,rfl,hfv⟩,hb2⟩;cases hno;refine Stop.of ?_)
     refine Stop.go ?_
     obtain rfl:f=f':=by cases hso;rfl
     clear hso
     have HFV:=hid hfv
     obtain⟨pa,pn,pc,va,vn,vc,rfl,_,_,_,_,_,_,_,_⟩:=hfv
     have hy2:Z2.cell? ⟨W.heap.size,0,none⟩=some (.func (.yield l) #[] #[]):=(hb2.cell (p:=⟨W.heap.size,0,none⟩) hZz).trans hzy
     have hyl:W.heap.size<Z2.heap.size:=Nat.lt_of_lt_of_le hZz hb2.size
     have hb3:=zAA hb2 ((Below.refl Z2.heap.size Z2).alloc (Nat.le_refl _) (.cells #[.slice pa pn pc,.slice va vn vc] 73))
     have hyk:=HY.out (T Sr) (zBG M y Wn t++pre.filterMap (fitF M y)) f (.agg #[.slice pa pn pc,.slice va vn vc]) (Z2.alloc (.cells #[.slice pa pn pc,.slice va vn vc] 73))
      (by rw[HN.out];exact fitsTo_in hlt HPRE.out HF.out) (fun q hq=>⟨HIZ.out.s q hq,Nat.lt_of_lt_of_le (HTB.out q hq) hb3.size⟩) (Nat.le_trans (Nat.le_of_lt hZz) hb3.size)
      (HJ.out _ _ _ _ _ HIZ.out.j (fun _ h=>h) (fun _ h=>.inl h) (Keep.of_below hb3)) (HFV.out.own ((Below.refl _ _).alloc (Nat.le_refl _) _) (Nat.le_of_lt hZz) HTB.out)
     have HB3':=hid hb3
     clear hb2 hb3
     obtain⟨fn,tmps,assign,body,hy,hR'⟩:=hyk
     gi_wp2
     refine⟨rfl,hR'.mono ?_⟩
     clear hR' hy
     rintro e W3 ⟨⟨hs3,hk3⟩,⟨rfl,hJ3⟩|⟨rfl,hJ3⟩⟩
     ·gi_wp2
      refine⟨Nat.le_trans HB3'.out.size hs3,fun q hq=>?_,?_⟩
      ·have hq':T Sr q:=by rw[HT.out];exact .inr (by rcases hq with (hq|hq)|hq|hq|hq<;>simp[hq])
       exact(hk3 q (.inr hq')).trans (HB3'.out.block q (HTB.out q hq'))
      ·show FitsI w0 fp l J W.heap.size (zBG M y Wn t++(pre++[x]).filterMap (fitF M y)) (T Sr) hs _
       rw[List.filterMap_append,List.filterMap_cons_some HF.out,List.filterMap_nil,<- List.append_assoc]
       exact HIZ.out.step HTB.out HB3'.out hs3 hk3 hJ3
     ·gi_wp2
      refine⟨Nat.le_trans HB3'.out.size hs3,fun q hq=>?_,rfl,?_⟩
      ·have hq':T Sr q:=by rw[HT.out];exact .inr (by rcases hq with (hq|hq)|hq|hq|hq<;>simp[hq])
       exact(hk3 q (.inr hq')).trans (HB3'.out.block q (HTB.out q hq'))
      ·show FitsI w0 fp l Jx W.heap.size (zBG M y Wn t++(pre++[x]).filterMap (fitF M y)) (T Sr) hs _
       rw[List.filterMap_append,List.filterMap_cons_some HF.out,List.filterMap_nil,<- List.append_assoc]
       exact HIZ.out.step HTB.out HB3'.out hs3 hk3 hJ3
   case hdone=>
    intro Sr Z hZ hSr hIZ hmk
    have HIZ:=hid hIZ
    have HSR:=hid hSr
    have HMK:=hid hmk
    have HT:=hid hT
    have hYs:=hbL.size
    have HTB:=hid (show ∀q,T Sr q->q<Z.heap.size by
     rw[hT];rintro q (h|h|h|h|h|h)
     ·have:=HSX.out q h;omega
     ·omega
     ·omega
     ·omega
     ·omega
     ·exact(hSr q h).2)
    have HNN:=hid (show wL.heap.size∉hs from fun h=>by have:=HSX.out _ (HX.out.m _ h).1;omega)
    clear hIZ hSr hmk hT hF0 hF1 hYs
    gi_wp2
    rw[HI.out,HMU.out]
    refine⟨⟨_,_,_,_,_,_,_,_,_,_,_,_,_,_,_,_,_,_,_,_,_,_,_,_,_,_,_,_,_,_,_,_,t+1,T Sr,wL.heap.size::hs,hlt,?_,HTB.out,List.nodup_cons.2 ⟨HNN.out,HND.out⟩,by first|rfl| (rw[cast1 t];rfl)⟩,?_⟩
    ·rw[zBT]
     refine⟨HIZ.out.j,HIZ.out.s,HIZ.out.y,HIZ.out.c,HIZ.out.f,HIZ.out.z,fun q hq=>?_⟩
     rcases List.mem_cons.1 hq with rfl|hq
     ·exact⟨by rw[HT.out];simp,HMK.out⟩
     ·exact HIZ.out.m q hq
    ·show N+1-(intOf (.int .i64 ((t:Int)+1))).toNat<N+1-(intOf (.int .i64 (t:Int))).toNat
     simp only[intOf];omega
   case hstop=>
    rintro Sr c pre Z hpre hSr ⟨rfl,hIZ⟩ hmk
    have HIZ:=hid hIZ
    have HMK:=hid hmk
    have HT:=hid hT
    have HPRE:=hid hpre
    have HNN:=hid (show wL.heap.size∉hs from fun h=>by have:=HSX.out _ (HX.out.m _ h).1;have:=hbL.size;omega)
    clear hIZ hSr hmk hT hF0 hF1 hpre
    gi_wp2
    refine zDT (wL.heap.size::hs) Z (List.nodup_cons.2 ⟨HNN.out,HND.out⟩) (fun h hh=>?_) fun w' hk=>?_
    ·rcases List.mem_cons.1 hh with rfl|hh
     ·exact HMK.out
     ·exact(HIZ.out.m h hh).2
    ·refine⟨_,results_none rfl _ _ _,⟨_,rfl⟩,.inr ⟨T Sr,_,?_,HJx.out _ _ _ _ _ HIZ.out.j (fun _ h=>h) (fun _ h=>.inl h) (hk.mono fun q hq hh=>?_)⟩⟩
     ·rw[HN.out]
      exact zJQ hlt HPRE.out
     ·rcases List.mem_cons.1 hh with rfl|hh
      ·exact hq (by rw[HT.out];simp)
      ·exact hq (HIZ.out.m q hh).1
  ·obtain rfl:t=N+1:=by omega
   clear hX hSX hnd
   gi_wp2
   refine zDT hs X HND.out (fun h hh=>(HX.out.m h hh).2) fun w' hk=>?_
   refine⟨_,results_none rfl _ _ _,⟨_,rfl⟩,.inl ⟨S,fun q hq=>⟨HX.out.s q hq,Nat.lt_of_lt_of_le (HSX.out q hq) hk.size⟩,?_⟩⟩
   rw[HN.out]
   exact HJ.out _ _ _ _ _ HX.out.j (fun _ h=>h) (fun _ h=>.inl h) (hk.mono fun q hq hh=>hq (HX.out.m q hh).1)
end
section
open Go.RowKit
theorem qfits_c(w:World)(a a2:Option Addr)(n cap n2 cap2:Nat)(k:Int):
 Calls Tryz.prog 234 #[.agg #[.slice a n cap,.slice a2 n2 cap2],.int .i64 k] w fun e w'=>
  e=.returned (.func (.func 254) #[] #[.pointer (some ⟨w.heap.size+1,0,none⟩),.pointer (some ⟨w.heap.size,0,none⟩)])∧
  w'=(w.alloc (.cells #[.slice a n cap,.slice a2 n2 cap2] 216)).alloc (.cells #[.int .i64 k] 3):=by
 have hmf:∀(fn:Fn) (first cap:Array Value) (w:World),(Instr.makeFunc fn first cap).run Tryz.prog w=.ok (.func fn first cap) w:=fun _ _ _ _=>rfl
 go_enter Tryz.func234,Tryz.ntmps234
 go_wp2
 go_ret
 exact⟨rfl,rfl⟩
def zDN(M:Mask)(y:List Int)(k:Int):Int:=if zBH M y []=0 then(if inB k 0 10=true then 0 else 7)else zBH M y []
theorem counted_c(w:World)(a a2:Option Addr)(n cap n2 cap2:Nat)(M:Mask)(y:List Int)(k:Int)(hn:M.length=n)(hn2:y.length=n2)(hm:n<=maxLen)(hm2:n2<=maxLen)(H:zAT w a M)(H2:zAJ w a2 y):
 Calls Tryz.prog 232 #[.slice a n cap,.slice a2 n2 cap2,.int .i64 k] w fun e w'=>e=.returned (.int .i64 (zDN M y k))∧Below w.heap.size w w':=by
 have HC:=hid (zJA w a a2 none n cap n2 cap2 0 0 M y [] hn hn2 rfl hm hm2 (by decide) H H2 (fun j hj=>by simp at hj))
 have HW:=hid (fun X=>zEJ k 0 10 X)
 obtain⟨E,hE⟩:=exq (zBH M y [])
 obtain⟨b,hb⟩:=exq (inB k 0 10)
 have hP:zDN M y k=if E=0 then(if b=true then 0 else 7)else E:=by rw[hE,hb];rfl
 rw[<- hE]at HC
 rw[<- hb]at HW
 rw[hP]
 clear hE hb hP hn hn2 H H2
 go_enter Tryz.func232,Tryz.ntmps232
 by_cases h0:E=0
 ·subst h0
  cases b
  all_goals
   go_wp2_with first
    | (go_at_call 101;refine HC.out.mono ?_;rintro e w1 ⟨rfl,hb1⟩)
    | (go_at_call 88;refine(HW.out _).mono ?_;rintro e w2 ⟨rfl,rfl⟩)
   go_ret
   exact⟨rfl,hb1⟩
 ·have hne:(E !=0)=true:=by simp[h0]
  rw[if_neg h0]
  clear h0
  go_wp2_with (go_at_call 101;refine HC.out.mono ?_;rintro e w1 ⟨rfl,hb1⟩)
  go_ret
  exact⟨rfl,hb1⟩
end
section
open Go.RowKit
attribute [local go_sem] Oper.semAt_some
theorem zJG{R:List (List Int)}{n:Nat}(h:(zAN R n).2=0):(zAN R n).1.length=n:=by
 unfold zAN at h⊢
 simp only[]at h⊢
 split
 ·rename_i h1;rw[if_pos h1]at h;simp at h
 ·rename_i h1
  rw[if_neg h1]at h
  split
  ·rename_i h2;rw[if_pos h2]at h;simp at h
  ·simp
theorem fitF_len{M:Mask}{y S:List Int}{f:FitT}(h:fitF M y S=some f):f.1=S∧f.2.length=S.length:=by
 obtain⟨e,h0,_⟩:=zHS h
 rw[e]
 refine⟨rfl,?_⟩
 show(zCB M S y).1.length=S.length
 unfold zCB at h0⊢
 split
 ·rename_i hc
  rw[if_pos hc]at h0
  exact zJG h0
 ·rename_i hc
  rw[if_neg hc]at h0
  exact absurd h0 hc
theorem FitV.keep{lo:Nat}{S:Nat->Prop}{x:FitT}{v:Value}{A B:World}{T:Nat->Prop}(h:FitV lo S x v A)(hk:Keep T A B)(hT:∀k,lo<=k->T k):FitV lo S x v B:=by
 obtain⟨pa,pn,pc,va,vn,vc,e,h1,h2,h3,h4,h5,h6,h7,h8⟩:=h
 refine⟨pa,pn,pc,va,vn,vc,e,h1,h2,h3,h4,fun j hj=>?_,fun j hj=>?_,fun b o e=>?_,fun b o e=>?_⟩
 ·obtain⟨b,o,e2,hlt,hc⟩:=h5 j hj
  exact⟨b,o,e2,Nat.lt_of_lt_of_le hlt hk.size,hk.cell hc (hT b (h7 b o e2).1)⟩
 ·obtain⟨b,o,e2,hlt,hc,hd⟩:=h6 j hj
  exact⟨b,o,e2,Nat.lt_of_lt_of_le hlt hk.size,hk.cell hc (hT b (h8 b o e2).1),hk.cell hd (hT b (h8 b o e2).1)⟩
 ·obtain⟨g1,g2,g3,c,z,g4⟩:=h7 b o e
  exact⟨g1,Nat.lt_of_lt_of_le g2 hk.size,g3,c,z,(hk.block b g2 (hT b g1)).trans g4⟩
 ·obtain⟨g1,g2,g3,c,z,g4⟩:=h8 b o e
  exact⟨g1,Nat.lt_of_lt_of_le g2 hk.size,g3,c,z,(hk.block b g2 (hT b g1)).trans g4⟩
theorem cell_blk{W W':World}{b o:Nat}{v:Value}(h:W.cell? ⟨b,o,none⟩=some v)(hk:W'.heap[b]? =W.heap[b]?):W'.cell? ⟨b,o,none⟩=some v:=
 (World.cell?_of_block (a:=⟨b,o,none⟩) hk).trans h
theorem lt_blk{W W':World}{b:Nat}(h:b<W.heap.size)(hk:W'.heap[b]? =W.heap[b]?):b<W'.heap.size:=by
 rcases Nat.lt_or_ge b W'.heap.size with h'|h'
 ·exact h'
 ·rw[Array.getElem?_eq_none h',Array.getElem?_eq_getElem h]at hk;cases hk
theorem zAJ.blk{W W':World}{a:Option Addr}{l:List Int}(h:zAJ W a l)(hk:∀k,k<W.heap.size->W'.heap[k]? =W.heap[k]?):zAJ W' a l:=by
 intro j hj
 obtain⟨b,off,e,hb,hc⟩:=h j hj
 exact⟨b,off,e,lt_blk hb (hk b hb),cell_blk hc (hk b hb)⟩
theorem zAT.blk{W W':World}{a:Option Addr}{l:List (List Int)}(h:zAT W a l)(hk:∀k,k<W.heap.size->W'.heap[k]? =W.heap[k]?):zAT W' a l:=by
 intro j hj
 obtain⟨b,off,ra,n,cap,e,hb,hc,h1,h2,h3⟩:=h j hj
 exact⟨b,off,ra,n,cap,e,lt_blk hb (hk b hb),cell_blk hc (hk b hb),h1,h2,h3.blk hk⟩
def ElemN(W:World)(base:Nat)(S:Nat->Prop)(u:Value)(l:List Int):Prop:=
 ∃b cap,u=.slice (some ⟨b,0,none⟩) l.length cap∧base<=b∧S b∧zBE W b l∧l.length<=maxLen
def zKV(T:TypeId)(W:World)(base:Nat)(S:Nat->Prop)(v:Value)(ls:List (List Int)):Prop:=
 ∃vs,W.ownsRow base T 1 v ls.length vs∧(∀k,v.ownBlock=some k->S k)∧∀j (hj:j<ls.length),∃u,vs[j]? =some u∧ElemN W base S u ls[j]
theorem zKV.nil(T:TypeId)(W:World)(base:Nat)(S:Nat->Prop):zKV T W base S (.slice none 0 0) []:=
 ⟨[],World.ownsRow_nil _ _ _ _,fun k hk=>by simp[Value.ownBlock]at hk,fun j hj=>by simp at hj⟩
theorem zKV.keep{T:TypeId}{W W':World}{base:Nat}{S S' K:Nat->Prop}{v:Value}{ls:List (List Int)}(h:zKV T W base S v ls)(hk:Keep K W W')(hS:∀b,S b->b<W.heap.size->K b∧S' b):zKV T W' base S' v ls:=by
 obtain⟨vs,ho,hg,he⟩:=h
 refine⟨vs,⟨ho.1,?_⟩,fun k hk'=>?_,fun j hj=>?_⟩
 ·rcases ho.2 with hn|⟨g,cap,cur,rfl,hb,hgg,rest⟩
  ·exact .inl hn
  ·have hlt:=(Array.getElem?_eq_some_iff.1 hgg).1
   exact .inr ⟨g,cap,cur,rfl,hb,(hk.block g hlt (hS g (hg g rfl) hlt).1).trans hgg,rest⟩
 ·rcases ho.2 with⟨rfl,_⟩|⟨g,cap,cur,rfl,hb,hgg,rest⟩
  ·simp[Value.ownBlock]at hk'
  ·obtain rfl:g=k:=by simpa[Value.ownBlock]using hk'
   exact(hS g (hg g rfl) (Array.getElem?_eq_some_iff.1 hgg).1).2
 ·obtain⟨u,hu,b,cap,e,h1,h2,h3,h4⟩:=he j hj
  have:=hS b h2 h3.lt
  exact⟨u,hu,b,cap,e,h1,this.2,h3.keep (hk.block b h3.lt this.1),h4⟩
theorem zKV.snoc{T:TypeId}(hET:3≠T){W w1 w2:World}{base:Nat}{S:Nat->Prop}{v v' u:Value}{ls:List (List Int)}{l:List Int}{vs:List Value}
 (ho:W.ownsRow base T 1 v ls.length vs)(he:∀j (hj:j<ls.length),∃u,vs[j]? =some u∧ElemN W base S u ls[j])(hu:ElemN W base S u l)
 (hW1:Below W.heap.size W w1)(hg:w1.grownBy w2 v.ownBlock)(ho':w2.ownsRow base T 1 v' (ls.length+1) (vs++[u]))(hS':∀k,v'.ownBlock=some k->S k):zKV T w2 base S v' (ls++[l]):=by
 have hlen:vs.length=ls.length:=by have:=ho.1;omega
 have hel:∀u l,ElemN W base S u l->ElemN w2 base S u l:=by
  rintro u l ⟨b,cap,e,h1,h2,h3,h4⟩
  refine⟨b,cap,e,h1,h2,h3.keep ((hg.block b (Nat.lt_of_lt_of_le h3.lt hW1.size) ?_).trans (hW1.block b h3.lt)),h4⟩
  rcases ho.2 with⟨rfl,_⟩|⟨g,cap,cur,rfl,hbg,hgg,_⟩
  ·simp[Value.ownBlock]
  ·intro e
   obtain rfl:b=g:=by simpa[Value.ownBlock]using e
   obtain⟨sp,h3⟩:=h3
   rw[h3]at hgg;cases hgg;exact hET rfl
 refine⟨vs++[u],by simpa using ho',hS',fun j hj=>?_⟩
 by_cases e:j<ls.length
 ·obtain⟨u',hu',hel'⟩:=he j e
  refine⟨u',by rw[List.getElem?_append_left (by omega)];exact hu',?_⟩
  rw[List.getElem_append_left e]
  exact hel _ _ hel'
 ·have:j=ls.length:=by simp at hj;omega
  subst this
  refine⟨u,by rw[List.getElem?_append_right (by omega),hlen];simp,?_⟩
  simp only[List.getElem_append_right (Nat.le_refl _),Nat.sub_self,List.getElem_cons_zero]
  exact hel _ _ hu
structure WholeI (w w3:World) (ob:Nat) (fp:Nat->Prop) (S:Nat->Prop) (L:List (List Int)) (Z:World):Prop where
 b:Below w.heap.size w Z
 f:Keep fp w3 Z
 o:∃v,Boxed Z ob 22 v∧zKV 24 Z (w3.heap.size+2) (fun q=>¬S q∧q≠ob∧q≠w3.heap.size∧q≠w3.heap.size+1) v L
 z:w3.heap.size+2<=Z.heap.size
theorem WholeI.keep{w w3:World}{ob:Nat}{fp S S':Nat->Prop}{L:List (List Int)}{A B:World}(h:WholeI w w3 ob fp S L A)(h1:∀k,S k->S' k)(h2:∀k,S' k->S k∨A.heap.size<=k)(h3:∀k,S' k->w3.heap.size+2<=k)
 (hob:ob<w3.heap.size)(hfp:∀k,fp k->k<w3.heap.size)(hw:w.heap.size<=w3.heap.size)(hk:Keep (fun k=>k≠w3.heap.size∧k≠w3.heap.size+1∧¬S' k) A B):WholeI w w3 ob fp S' L B where
 b:=by
  have hz:=h.z
  exact hk.below h.b (Nat.le_trans hw (by omega)) (fun k hlt=>⟨by omega,by omega,fun hs=>by have:=h3 k hs;omega⟩)
 f:=h.f.trans (hk.mono fun k hlt=>by have:=hfp k hlt;exact⟨by omega,by omega,fun hs=>by have:=h3 k hs;omega⟩)
 o:=by
  obtain⟨v,hv,hr⟩:=h.o
  refine⟨v,(hk.block ob hv.lt ⟨by omega,by omega,fun hs=>by have:=h3 _ hs;omega⟩).trans hv,?_⟩
  refine zKV.keep hr hk ?_
  rintro q ⟨g1,g2,g3,g4⟩ g5
  have:¬S' q:=fun hs=>by
   rcases h2 q hs with g|g
   ·exact g1 g
   ·omega
  exact⟨⟨g3,g4,this⟩,this,g2,g3,g4⟩
 z:=Nat.le_trans h.z hk.size
theorem zEN(M:Mask)(y:List Int)(W:Nat):∀t,(zBG M y W t).length<=t*2 ^ W
 |0=>by simp[zBG]
 |t+1=>by
  rw[zBT,List.length_append]
  have h1:=zEN M y W t
  have h2:=List.length_filterMap_le (fitF M y) (comb W t 0)
  have h3:=zGT W t 0
  rw[Nat.add_mul]
  omega
end
section
open Go.RowKit
def picB(M:Mask)(x:List Int):Bool:=decide (x.length=zAL M)&&x.all (fun n=>inB n (-1000) 1000)
end
section
open Go.RowKit
abbrev Frm:=Bool×List Int
def zKX(w:World)(a:Option Addr)(fs:List Frm):Prop:=
 ∀j (hj:j<fs.length),∃b off ra n cap,a=some ⟨b,off,none⟩∧b<w.heap.size∧w.cell? ⟨b,off+j*2,none⟩=some (.bool fs[j].1)∧w.cell? ⟨b,off+j*2+1,none⟩=some (.slice ra n cap)∧fs[j].2.length=n∧n<=maxLen∧zAJ w ra fs[j].2
theorem zKX.below{w w':World}{a:Option Addr}{l:List Frm}(h:zKX w a l)(hb:Below w.heap.size w w'):zKX w' a l:=by
 intro j hj
 obtain⟨b,off,ra,n,cap,e,hlt,h0,h1,hn,hm,hi⟩:=h j hj
 exact⟨b,off,ra,n,cap,e,Nat.lt_of_lt_of_le hlt hb.size,(hb.cell (p:=⟨b,_,none⟩) hlt).trans h0,(hb.cell (p:=⟨b,_,none⟩) hlt).trans h1,hn,hm,hi.below hb⟩
end
section
open Go.RowKit
def FrmV(w:World)(v:Value)(f:Frm):Prop:=∃ra n cap,v=.agg #[.bool f.1,.slice ra n cap]∧f.2.length=n∧n<=maxLen∧zAJ w ra f.2
theorem FrmV.below{w w':World}{v:Value}{f:Frm}(h:FrmV w v f)(hb:Below w.heap.size w w'):FrmV w' v f:=by
 obtain⟨ra,n,cap,e,hn,hm,hi⟩:=h
 exact⟨ra,n,cap,e,hn,hm,hi.below hb⟩
end
section
open Go.RowKit
def addF(r b:List Int):List Int:=(List.range r.length).map (fun i=>vec r i+vec b i)
def wholeV(M:Mask)(y:List Int)(k:Int):Option (List Int):=if zDN M y k=0 then(match wholeF M y k.toNat with| [r]=>some r|_=>none)else none
def nextF(M:Mask)(k:Int)(before:Option (List Int))(f:Frm):Option (List Int):=
 if f.2.length=0 then none else if f.1=true then some f.2 else
  match before with
  |none=>none
  |some b=>match wholeV M f.2 k with
   |none=>none
   |some r=>if picB M (addF r b)=true then some (addF r b)else none
def decAt(M:Mask)(k:Int)(fs:List Frm):Nat->Option (List Int)
 |0=>none
 |j+1=>nextF M k (decAt M k fs j) (fs[j]?.getD (false,[]))
end
section
open Go.RowKit
theorem AnyT.next2{P:Program}{md:Region.Mode}{ops:Array Oper}{Q:Exit->Act->World->Prop}{T:Nat->World->Prop}{i j:Nat}{fuel:Nat}{listed:Array Bool}{a:Act}{w:World}(hr:Region.ready md ops listed=[i,j])
 (h1:wpOp P ops Q i (fun a' w'=>T i w'∧AnyT P md ops Q T fuel (listed.setIfInBounds i true) a' w') a w)
 (h2:wpOp P ops Q j (fun a' w'=>T j w'∧AnyT P md ops Q T fuel (listed.setIfInBounds j true) a' w') a w):AnyT P md ops Q T (fuel+1) listed a w:=
 ⟨fun h0=>(by rw[hr]at h0;cases h0),fun k hk=>by
   rw[hr]at hk
   have:k=i∨k=j:=by simpa using hk
   rcases this with rfl|rfl
   ·exact h1
   ·exact h2⟩
end
section
section
section
end
section
open Go.RowKit
def OwnR(W:World)(base:Nat)(u:Value)(l:List Int):Prop:=W.ownsRow base 3 1 u l.length (l.map (Value.int .i64))
theorem OwnR.type{W:World}{base k:Nat}{u:Value}{l:List Int}(h:OwnR W base u l)(hk:u.ownBlock=some k):base<=k∧k<W.heap.size∧∃c,W.heap[k]? =some (.cells c 3 (0,0)):=by
 rcases h.2 with⟨rfl,_⟩|⟨g,cap,cur,rfl,hbg,hgg,_⟩
 ·simp[Value.ownBlock]at hk
 ·obtain rfl:g=k:=by simpa[Value.ownBlock]using hk
  exact⟨hbg,(Array.getElem?_eq_some_iff.1 hgg).1,cur,hgg⟩
theorem OwnR.moved{W W':World}{base:Nat}{u:Value}{l:List Int}(h:OwnR W base u l)(hm:∀k,u.ownBlock=some k->W'.heap[k]? =W.heap[k]?):OwnR W' base u l:=by
 refine⟨h.1,?_⟩
 rcases h.2 with hn|⟨g,cap,cur,rfl,hbg,hgg,rest⟩
 ·exact .inl hn
 ·exact .inr ⟨g,cap,cur,rfl,hbg,(hm g rfl).trans hgg,rest⟩
theorem OwnR.low{W:World}{base b0:Nat}{u:Value}{l:List Int}(h:OwnR W base u l)(hb:b0<=base):OwnR W b0 u l:=by
 refine⟨h.1,?_⟩
 rcases h.2 with hn|⟨g,cap,cur,rfl,hbg,rest⟩
 ·exact .inl hn
 ·exact .inr ⟨g,cap,cur,rfl,by omega,rest⟩
theorem OwnR.below{W W':World}{base:Nat}{u:Value}{l:List Int}(h:OwnR W base u l)(hb:Below W.heap.size W W'):OwnR W' base u l:=h.moved fun k hk=>hb.block k (h.type hk).2.1
def TabD(W:World)(base:Nat)(v:Value)(L:List (List Int)):Prop:=
 ∃vs,W.ownsRow base 24 1 v L.length vs∧(∀j (hj:j<L.length),∃u,vs[j]? =some u∧OwnR W base u L[j])∧
  ∀(i j:Nat) (u u':Value) (k:Nat),vs[i]? =some u->vs[j]? =some u'->u.ownBlock=some k->u'.ownBlock=some k->i=j
theorem TabD.nil(W:World)(base:Nat):TabD W base (.slice none 0 0) []:=⟨[],World.ownsRow_nil _ _ _ _,fun j hj=>by simp at hj,fun i j u u' k h=>by simp at h⟩
theorem TabD.below{W W':World}{base:Nat}{v:Value}{L:List (List Int)}(h:TabD W base v L)(hb:Below W.heap.size W W'):TabD W' base v L:=by
 obtain⟨vs,h1,h2,h3⟩:=h
 refine⟨vs,zBF h1 hb,fun j hj=>?_,h3⟩
 obtain⟨u,hu,hr⟩:=h2 j hj
 exact⟨u,hu,hr.below hb⟩
theorem own_typeL{W:World}{base k n:Nat}{v:Value}{vs:List Value}(h:W.ownsRow base 24 1 v n vs)(hk:v.ownBlock=some k):base<=k∧k<W.heap.size∧∃c,W.heap[k]? =some (.cells c 24 (0,0)):=by
 rcases h.2 with⟨rfl,_⟩|⟨g,cap,cur,rfl,hbg,hgg,_⟩
 ·simp[Value.ownBlock]at hk
 ·obtain rfl:g=k:=by simpa[Value.ownBlock]using hk
  exact⟨hbg,(Array.getElem?_eq_some_iff.1 hgg).1,cur,hgg⟩
theorem TabD.snoc{W w1 w3:World}{base:Nat}{v v' u:Value}{L:List (List Int)}{r:List Int}{vs:List Value}(h1:W.ownsRow base 24 1 v L.length vs)
 (h2:∀j (hj:j<L.length),∃u,vs[j]? =some u∧OwnR W base u L[j])(h3:∀(i j:Nat) (u u':Value) (k:Nat),vs[i]? =some u->vs[j]? =some u'->u.ownBlock=some k->u'.ownBlock=some k->i=j)
 (hb:Below W.heap.size W w1)(hbase:base<=W.heap.size)(hr:OwnR w1 W.heap.size u r)(hg:w1.grownBy w3 v.ownBlock)
 (ho':w3.ownsRow base 24 1 v' (L.length+1) (vs++[u])):TabD w3 base v' (L++[r]):=by
 have hlen:vs.length=L.length:=by have:=h1.1;omega
 have hup:∀b u l,OwnR w1 b u l->OwnR w3 b u l:=by
  intro b u l hu
  refine hu.moved fun k hk=>?_
  obtain⟨_,hlt,c,hc⟩:=hu.type hk
  refine hg.block k hlt ?_
  intro e
  obtain⟨_,h4,c2,hc2⟩:=own_typeL h1 e.symm
  have:=(hb.block k h4).trans hc2
  rw[hc]at this;cases this
 have hold:∀j q k,j<L.length->vs[j]? =some q->q.ownBlock=some k->k<W.heap.size:=by
  intro j q k hj hq hk
  obtain⟨u',hu',hr'⟩:=h2 j hj
  rw[hq]at hu';cases hu'
  exact(hr'.type hk).2.1
 refine⟨vs++[u],by simpa using ho',fun j hj=>?_,?_⟩
 ·simp only[List.length_append,List.length_cons,List.length_nil,Nat.zero_add]at hj
  by_cases hjl:j<L.length
  ·obtain⟨u',hu',hr'⟩:=h2 j hjl
   rw[List.getElem_append_left hjl]
   exact⟨u',by rw[List.getElem?_append_left (by omega)];exact hu',hup _ _ _ (hr'.below hb)⟩
  ·obtain rfl:j=L.length:=by omega
   rw[List.getElem_append_right (Nat.le_refl _)]
   simp only[Nat.sub_self,List.getElem_cons_zero]
   exact⟨u,by rw[List.getElem?_append_right (by omega),hlen];simp,hup _ _ _ (hr.low hbase)⟩
 ·intro i j q q' k hi hj hk hk'
  have hin:∀{i:Nat} {q:Value},(vs++[u])[i]? =some q->(i<L.length∧vs[i]? =some q)∨(i=L.length∧q=u):=by
   intro i q h
   rcases Nat.lt_or_ge i L.length with h4|h4
   ·rw[List.getElem?_append_left (by omega)]at h;exact .inl ⟨h4,h⟩
   ·rw[List.getElem?_append_right (by omega),hlen]at h
    rcases Nat.eq_or_lt_of_le h4 with h5|h5
    ·rw[<- h5,Nat.sub_self]at h;exact .inr ⟨h5.symm,by simpa using h.symm⟩
    ·rw[List.getElem?_eq_none (by simp;omega)]at h;cases h
  rcases hin hi with⟨h4,h5⟩|⟨h4,rfl⟩<;>rcases hin hj with⟨h6,h7⟩|⟨h6,h8⟩
  ·exact h3 i j q q' k h5 h7 hk hk'
  ·subst h8
   have:=hold i q k h4 h5 hk
   have:=(hr.type hk').1
   omega
  ·have:=hold j q' k h6 h7 hk'
   have:=(hr.type hk).1
   omega
  ·omega
end
section
open Go.RowKit
def zGC(w:World)(g:Nat)(l:List Rt):Prop:=w.heap[g]? =some (.cells (zBS l).toArray 29 (0,0))
theorem zGC.lt{w:World}{g:Nat}{l:List Rt}(h:zGC w g l):g<w.heap.size:=(Array.getElem?_eq_some_iff.1 h).1
theorem zGC.keep{w w':World}{g:Nat}{l:List Rt}(h:zGC w g l)(hk:w'.heap[g]? =w.heap[g]?):zGC w' g l:=hk.trans h
theorem zIG:∀(l:List Rt) (k:Nat) (p q:Int),k<l.length->((zBS l).set (k*2) (.int .i64 p)).set (k*2+1) (.int .i64 q)=zBS (l.set k (p,q))
 |x::l,0,p,q,_=>by simp[zBS,zBI]
 |x::l,k+1,p,q,h=>by
  have ih:=zIG l k p q (by simpa using h)
  have e:zBS (x::l)=.int .i64 x.1:: .int .i64 x.2::zBS l:=rfl
  rw[e,show(k+1)*2=(k*2+1)+1 by omega]
  simp only[List.set_cons_succ]
  rw[ih];rfl
theorem zGC.set{w:World}{g:Nat}{l:List Rt}(h:zGC w g l){k:Nat}(hk:k<l.length)(p q:Int):zGC ((w.setCell ⟨g,k*2,none⟩ (.int .i64 p)).setCell ⟨g,k*2+1,none⟩ (.int .i64 q)) g (l.set k (p,q)):=by
 unfold zGC
 rw[zAQ (zAQ h (k*2) (.int .i64 p)) (k*2+1) (.int .i64 q),<- zIG l k p q hk]
 congr 2
 apply Array.toList_inj.1
 simp
def addY(L:List (List Int))(y:List Int)(k:Nat):List (List Int):=zAF (L.take k) (y.take k)++L.drop k
end
end
section
section
open Go.RowKit
end
section
open Go.RowKit
end
end
end
section
open Go.RowKit
def zEZ(W:World)(base:Nat)(v:Value)(l:List Rt):Prop:=
 ∃a n cap,v=.slice a n cap∧l.length=n∧n<=maxLen∧∀j (hj:j<l.length),∃b off,a=some ⟨b,off,none⟩∧b<W.heap.size∧(b<base∨∃c f,W.heap[b]? =some (.cells c 29 f))∧
  W.cell? ⟨b,off+j*2,none⟩=some (.int .i64 l[j].1)∧W.cell? ⟨b,off+j*2+1,none⟩=some (.int .i64 l[j].2)
theorem zEZ.keep{W W':World}{base:Nat}{T:Nat->Prop}{v:Value}{l:List Rt}(h:zEZ W base v l)(hk:Keep T W W')(hT:∀b,b<W.heap.size->(b<base∨∃c f,W.heap[b]? =some (.cells c 29 f))->T b):zEZ W' base v l:=by
 obtain⟨a,n,cap,e,hn,hm,hj⟩:=h
 refine⟨a,n,cap,e,hn,hm,fun j hlt=>?_⟩
 obtain⟨b,off,e,hb,hty,h0,h1⟩:=hj j hlt
 have ht:=hT b hb hty
 refine⟨b,off,e,Nat.lt_of_lt_of_le hb hk.size,?_,hk.cell h0 ht,hk.cell h1 ht⟩
 rcases hty with h|⟨c,f,h⟩
 ·exact .inl h
 ·exact .inr ⟨c,f,(hk.block b hb ht).trans h⟩
theorem zEZ.below{W W':World}{base:Nat}{v:Value}{l:List Rt}(h:zEZ W base v l)(hb:Below W.heap.size W W'):zEZ W' base v l:=h.keep (Keep.of_below hb:Keep (fun _=>True) _ _) (fun _ _ _=>trivial)
end
section
open Go.RowKit
theorem lvls_mem{n:Nat}{s:List Int}:∀{k:Nat},s∈lvls n k->∃j,j<=k∧s∈comb n j 0
 |0,h=>⟨0,Nat.le_refl _,h⟩
 |k+1,h=>by
  rcases List.mem_append.1 h with h|h
  ·obtain⟨j,hj,h⟩:=lvls_mem h
   exact⟨j,by omega,h⟩
  ·exact⟨k+1,Nat.le_refl _,h⟩
theorem allS_ok{n:Nat}{s:List Int}(h:s∈allS n):s.length<=n∧zDP n s:=by
 obtain⟨j,hj,hs⟩:=lvls_mem h
 exact⟨by rw[zCK n j 0 s hs];exact hj,comb_ok hs⟩
end
section
open Go.RowKit
theorem info_fit:(Tryz.prog.info? 73).map (fun i=>(i.zero,i.size,i.bytes))=some (some (.agg #[.slice none 0 0,.slice none 0 0]),2,48):=by kernel_rfl
def zKY(W:World)(base:Nat)(v:Value)(T:List FitT):Prop:=
 ∃xs,W.ownsRow base 73 2 v T.length xs∧∀j (hj:j<T.length),∃us ur,xs[j*2]? =some us∧xs[j*2+1]? =some ur∧zEA 3 W base (fun _=>True) us T[j].1∧zEZ W base ur T[j].2
theorem zKY.nil(W:World)(base:Nat):zKY W base (.slice none 0 0) []:=⟨[],World.ownsRow_nil _ _ _ _,fun j hj=>by simp at hj⟩
theorem zKY.below{W W':World}{base:Nat}{v:Value}{T:List FitT}(h:zKY W base v T)(hb:Below W.heap.size W W'):zKY W' base v T:=by
 obtain⟨xs,ho,he⟩:=h
 refine⟨xs,zBF ho hb,fun j hj=>?_⟩
 obtain⟨us,ur,h1,h2,h3,h4⟩:=he j hj
 exact⟨us,ur,h1,h2,h3.keep (Keep.of_below hb:Keep (fun _=>True) _ _) (fun _ _ _ _=>trivial),h4.below hb⟩
theorem zKY.slice{W:World}{base:Nat}{v:Value}{T:List FitT}(h:zKY W base v T):∃a c,v=.slice a T.length c:=by
 obtain⟨xs,ho,_⟩:=h;exact zAH ho
def zHJ(w:World)(a:Option Addr)(T:List FitT):Prop:=
 ∀j (hj:j<T.length),∃b off pa pn pc va vn vc,a=some ⟨b,off,none⟩∧b<w.heap.size∧w.cell? ⟨b,off+j*2,none⟩=some (.slice pa pn pc)∧w.cell? ⟨b,off+j*2+1,none⟩=some (.slice va vn vc)∧
  T[j].1.length=pn∧pn<=maxLen∧zAJ w pa T[j].1∧T[j].2.length=vn∧vn<=maxLen∧zAX w va T[j].2
theorem zHJ.below{w w':World}{a:Option Addr}{T:List FitT}(h:zHJ w a T)(hb:Below w.heap.size w w'):zHJ w' a T:=by
 intro j hj
 obtain⟨b,off,pa,pn,pc,va,vn,vc,e,hlt,h0,h1,h2,h3,h4,h5,h6,h7⟩:=h j hj
 exact⟨b,off,pa,pn,pc,va,vn,vc,e,Nat.lt_of_lt_of_le hlt hb.size,(hb.cell (p:=⟨b,_,none⟩) hlt).trans h0,(hb.cell (p:=⟨b,_,none⟩) hlt).trans h1,h2,h3,h4.below hb,h5,h6,h7.below hb⟩
theorem zKY.snoc{W w1 w2:World}{base:Nat}{v v' us ur:Value}{T:List FitT}{t:FitT}{xs:List Value}
 (ho:W.ownsRow base 73 2 v T.length xs)(he:∀j (hj:j<T.length),∃us ur,xs[j*2]? =some us∧xs[j*2+1]? =some ur∧zEA 3 W base (fun _=>True) us T[j].1∧zEZ W base ur T[j].2)
 (h1:zEA 3 W base (fun _=>True) us t.1)(h2:zEZ W base ur t.2)
 (hW1:Below W.heap.size W w1)(hg:w1.grownBy w2 v.ownBlock)(ho':w2.ownsRow base 73 2 v' (T.length+1) (xs++[us,ur])):zKY w2 base v' (T++[t]):=by
 have hlen:xs.length=T.length*2:=ho.1
 have hgb:∀(E:TypeId),E≠73->∀b,(b<base∨∃c f,W.heap[b]? =some (.cells c E f))->b<W.heap.size->w2.heap[b]? =W.heap[b]? :=by
  intro E hE b hty hb
  refine(hg.block b (Nat.lt_of_lt_of_le hb hW1.size) ?_).trans (hW1.block b hb)
  rcases ho.2 with⟨rfl,_⟩|⟨g,cap,cur,rfl,hbg,hgg,_⟩
  ·simp[Value.ownBlock]
  ·intro e
   obtain rfl:b=g:=by simpa[Value.ownBlock]using e
   rcases hty with h|⟨c,f,h⟩
   ·omega
   ·rw[h]at hgg;cases hgg;exact hE rfl
 have hel:∀u l,zEA 3 W base (fun _=>True) u l->zEA 3 w2 base (fun _=>True) u l:=by
  intro u l h
  refine h.keep (T:=fun b=>b<W.heap.size∧(b<base∨∃c f,W.heap[b]? =some (.cells c 3 f))) ⟨hg.os.trans hW1.os,hg.tape.trans hW1.tape,hg.output.trans hW1.output,Nat.le_trans hW1.size hg.size,fun k hk hT=>hgb 3 (by decide) k hT.2 hk⟩ fun b _ hb hty=>⟨hb,hty⟩
 have heq:∀u l,zEZ W base u l->zEZ w2 base u l:=by
  intro u l h
  refine h.keep (T:=fun b=>b<W.heap.size∧(b<base∨∃c f,W.heap[b]? =some (.cells c 29 f))) ⟨hg.os.trans hW1.os,hg.tape.trans hW1.tape,hg.output.trans hW1.output,Nat.le_trans hW1.size hg.size,fun k hk hT=>hgb 29 (by decide) k hT.2 hk⟩ fun b hb hty=>⟨hb,hty⟩
 refine⟨xs++[us,ur],by rw[List.length_append];exact ho',fun j hj=>?_⟩
 by_cases e:j<T.length
 ·obtain⟨us',ur',k1,k2,k3,k4⟩:=he j e
  refine⟨us',ur',by rw[List.getElem?_append_left (by omega)];exact k1,by rw[List.getElem?_append_left (by omega)];exact k2,?_,?_⟩
  ·rw[List.getElem_append_left e];exact hel _ _ k3
  ·rw[List.getElem_append_left e];exact heq _ _ k4
 ·have:j=T.length:=by simp at hj;omega
  subst this
  refine⟨us,ur,by rw[List.getElem?_append_right (by omega),hlen];simp,by rw[List.getElem?_append_right (by omega),hlen,show T.length*2+1-T.length*2=1 by omega];rfl,?_,?_⟩
  ·simp only[List.getElem_append_right (Nat.le_refl _),Nat.sub_self,List.getElem_cons_zero];exact hel _ _ h1
  ·simp only[List.getElem_append_right (Nat.le_refl _),Nat.sub_self,List.getElem_cons_zero];exact heq _ _ h2
def allF(M:Mask)(y:List Int):List FitT:=(allS (zAL M)).filterMap (fitF M y)
end
section
open Go.RowKit
def FitC(W:World)(S:Nat->Prop)(us ur:Value)(f:FitT):Prop:=
 ∃pa pn pc va vn vc,us=.slice pa pn pc∧ur=.slice va vn vc∧f.1.length=pn∧f.2.length=vn∧pn<=maxLen∧vn<=maxLen∧zAJ W pa f.1∧zAX W va f.2∧
  (∀b o,pa=some ⟨b,o,none⟩->S b∧b<W.heap.size∧∃c z,W.heap[b]? =some (.cells c 3 z))∧(∀b o,va=some ⟨b,o,none⟩->S b∧b<W.heap.size∧∃c z,W.heap[b]? =some (.cells c 29 z))
theorem FitC.keep{W W':World}{S S' K:Nat->Prop}{us ur:Value}{f:FitT}(h:FitC W S us ur f)(hk:Keep K W W')(hS:∀b,S b->b<W.heap.size->(∃c T z,(T=3∨T=29)∧W.heap[b]? =some (.cells c T z))->K b∧S' b):FitC W' S' us ur f:=by
 obtain⟨pa,pn,pc,va,vn,vc,e1,e2,h1,h2,h3,h4,h5,h6,h7,h8⟩:=h
 have s7:∀b o,pa=some ⟨b,o,none⟩->K b∧S' b:=fun b o e=>by obtain⟨g1,g2,c,z,g3⟩:=h7 b o e;exact hS b g1 g2 ⟨c,_,z,.inl rfl,g3⟩
 have s8:∀b o,va=some ⟨b,o,none⟩->K b∧S' b:=fun b o e=>by obtain⟨g1,g2,c,z,g3⟩:=h8 b o e;exact hS b g1 g2 ⟨c,_,z,.inr rfl,g3⟩
 refine⟨pa,pn,pc,va,vn,vc,e1,e2,h1,h2,h3,h4,fun j hj=>?_,fun j hj=>?_,fun b o e=>?_,fun b o e=>?_⟩
 ·obtain⟨b,o,e,hlt,hc⟩:=h5 j hj
  exact⟨b,o,e,Nat.lt_of_lt_of_le hlt hk.size,hk.cell hc (s7 b o e).1⟩
 ·obtain⟨b,o,e,hlt,hc,hd⟩:=h6 j hj
  exact⟨b,o,e,Nat.lt_of_lt_of_le hlt hk.size,hk.cell hc (s8 b o e).1,hk.cell hd (s8 b o e).1⟩
 ·obtain⟨g1,g2,c,z,g3⟩:=h7 b o e
  exact⟨(s7 b o e).2,Nat.lt_of_lt_of_le g2 hk.size,c,z,(hk.block b g2 (s7 b o e).1).trans g3⟩
 ·obtain⟨g1,g2,c,z,g3⟩:=h8 b o e
  exact⟨(s8 b o e).2,Nat.lt_of_lt_of_le g2 hk.size,c,z,(hk.block b g2 (s8 b o e).1).trans g3⟩
def zBU(W:World)(base:Nat)(S:Nat->Prop)(v:Value)(T:List FitT):Prop:=
 ∃xs,W.ownsRow base 73 2 v T.length xs∧(∀k,v.ownBlock=some k->S k)∧∀j (hj:j<T.length),∃us ur,xs[j*2]? =some us∧xs[j*2+1]? =some ur∧FitC W S us ur T[j]
theorem zBU.nil(W:World)(base:Nat)(S:Nat->Prop):zBU W base S (.slice none 0 0) []:=⟨[],World.ownsRow_nil _ _ _ _,fun k hk=>by simp[Value.ownBlock]at hk,fun j hj=>by simp at hj⟩
theorem zBU.slice{W:World}{base:Nat}{S:Nat->Prop}{v:Value}{T:List FitT}(h:zBU W base S v T):∃a c,v=.slice a T.length c:=by
 obtain⟨xs,ho,_⟩:=h;exact zAH ho
theorem zBU.keep{W W':World}{base:Nat}{S S' K:Nat->Prop}{v:Value}{T:List FitT}(h:zBU W base S v T)(hk:Keep K W W')(hS:∀b,S b->b<W.heap.size->K b∧S' b):zBU W' base S' v T:=by
 obtain⟨xs,ho,hg,he⟩:=h
 refine⟨xs,⟨ho.1,?_⟩,fun k hk'=>?_,fun j hj=>?_⟩
 ·rcases ho.2 with hn|⟨g,cap,cur,rfl,hb,hgg,rest⟩
  ·exact .inl hn
  ·have hlt:=(Array.getElem?_eq_some_iff.1 hgg).1
   exact .inr ⟨g,cap,cur,rfl,hb,(hk.block g hlt (hS g (hg g rfl) hlt).1).trans hgg,rest⟩
 ·rcases ho.2 with⟨rfl,_⟩|⟨g,cap,cur,rfl,hb,hgg,rest⟩
  ·simp[Value.ownBlock]at hk'
  ·obtain rfl:g=k:=by simpa[Value.ownBlock]using hk'
   exact(hS g (hg g rfl) (Array.getElem?_eq_some_iff.1 hgg).1).2
 ·obtain⟨us,ur,h1,h2,h3⟩:=he j hj
  exact⟨us,ur,h1,h2,h3.keep hk fun b hb hlt _=>hS b hb hlt⟩
theorem zBU.below{W W':World}{base:Nat}{S:Nat->Prop}{v:Value}{T:List FitT}(h:zBU W base S v T)(hb:Below W.heap.size W W'):zBU W' base S v T:=
 h.keep (Keep.of_below hb:Keep (fun _=>True) _ _) (fun _ h _=>⟨trivial,h⟩)
theorem zBU.snoc{W w1 w2:World}{base:Nat}{S:Nat->Prop}{v v' us ur:Value}{T:List FitT}{t:FitT}{xs:List Value}
 (ho:W.ownsRow base 73 2 v T.length xs)(he:∀j (hj:j<T.length),∃us ur,xs[j*2]? =some us∧xs[j*2+1]? =some ur∧FitC W S us ur T[j])(h1:FitC W S us ur t)
 (hW1:Below W.heap.size W w1)(hg:w1.grownBy w2 v.ownBlock)(ho':w2.ownsRow base 73 2 v' (T.length+1) (xs++[us,ur]))(hS':∀k,v'.ownBlock=some k->S k):zBU w2 base S v' (T++[t]):=by
 have hlen:xs.length=T.length*2:=ho.1
 have hk:Keep (fun b=>some b≠v.ownBlock) W w2:=(Keep.of_below hW1).trans (Keep.grown hg)
 have hel:∀us ur f,FitC W S us ur f->FitC w2 S us ur f:=fun us ur f h=>h.keep hk fun b hb hlt ⟨c,E,z,hE,hh⟩=>by
  refine⟨?_,hb⟩
  rcases ho.2 with⟨rfl,_⟩|⟨g,cap,cur,rfl,hbg,hgg,_⟩
  ·simp[Value.ownBlock]
  ·intro e
   obtain rfl:b=g:=by simpa[Value.ownBlock]using e
   rw[hh]at hgg
   cases hgg
   rcases hE with h|h
   ·exact absurd h (by decide)
   ·exact absurd h (by decide)
 refine⟨xs++[us,ur],by rw[List.length_append];exact ho',hS',fun j hj=>?_⟩
 by_cases e:j<T.length
 ·obtain⟨us',ur',k1,k2,k3⟩:=he j e
  refine⟨us',ur',by rw[List.getElem?_append_left (by omega)];exact k1,by rw[List.getElem?_append_left (by omega)];exact k2,?_⟩
  rw[List.getElem_append_left e];exact hel _ _ _ k3
 ·have:j=T.length:=by simp at hj;omega
  subst this
  refine⟨us,ur,by rw[List.getElem?_append_right (by omega),hlen];simp,by rw[List.getElem?_append_right (by omega),hlen,show T.length*2+1-T.length*2=1 by omega];rfl,?_⟩
  simp only[List.getElem_append_right (Nat.le_refl _),Nat.sub_self,List.getElem_cons_zero]
  exact hel _ _ _ h1
theorem FitV.fitC{lo:Nat}{S S':Nat->Prop}{f:FitT}{us ur:Value}{W:World}(h:FitV lo S f (.agg #[us,ur]) W)(hS:∀b,lo<=b->b<W.heap.size->¬S b->S' b):FitC W S' us ur f:=by
 obtain⟨pa,pn,pc,va,vn,vc,e,h1,h2,h3,h4,h5,h6,h7,h8⟩:=h
 simp only[Value.agg.injEq,Array.mk.injEq,List.cons.injEq,and_true]at e
 obtain⟨rfl,rfl⟩:=e
 refine⟨pa,pn,pc,va,vn,vc,rfl,rfl,h1,h2,h3,h4,h5,h6,fun b o e=>?_,fun b o e=>?_⟩
 ·obtain⟨g1,g2,g3,g4⟩:=h7 b o e
  exact⟨hS b g1 g2 g3,g2,g4⟩
 ·obtain⟨g1,g2,g3,g4⟩:=h8 b o e
  exact⟨hS b g1 g2 g3,g2,g4⟩
end
section
open Go.RowKit
attribute [local go_sem] Oper.semAt_some
theorem newsD(w:World)(x0 x1:Value)(T:TypeId):∀j u,[x0,x1][j]? =some u->(w.alloc (.cells #[x0,x1] T)).cell? ((⟨w.heap.size,0,none⟩:Addr).add j)=some u:=by
 intro j u hu
 match j,hu with
 |0,hu=>rw[Addr.add_lit,World.cell?_alloc_at _ _ _ _ rfl];simpa using hu
 |1,hu=>rw[Addr.add_lit,World.cell?_alloc_at _ _ _ _ rfl];simpa using hu
structure ColI (w:World) (base:Nat) (Sr:Nat->Prop) (pre:List FitT) (Z:World):Prop where
 b:Below w.heap.size w Z
 z:base<=Z.heap.size
 o:∃v,Boxed Z w.heap.size 87 v∧zBU Z base (fun q=>base<=q∧¬Sr q) v pre
theorem ColI.keep{w A B:World}{base:Nat}{S S':Nat->Prop}{pre:List FitT}(h:ColI w base S pre A)(hn:∀k,S' k->S k∨A.heap.size<=k)(hl:∀k,S' k->base<=k)(hb:w.heap.size<base)
 (hk:Keep (fun k=>(k<=w.heap.size∨base<=k)∧¬S' k) A B):ColI w base S' pre B:=by
 have hns:∀k,k<base->¬S' k:=fun k hk hs=>by have:=hl k hs;omega
 obtain⟨v,h1,h2⟩:=h.o
 refine⟨hk.below h.b h.b.size fun k hk=>⟨by omega,hns k (by omega)⟩,Nat.le_trans h.z hk.size,v,(hk.block _ h1.lt ⟨by omega,hns _ (by omega)⟩).trans h1,h2.keep hk fun q hq hlt=>?_⟩
 have h4:¬S' q:=fun hs=>by
  rcases hn q hs with h|h
  ·exact hq.2 h
  ·omega
 exact⟨⟨.inr hq.1,h4⟩,hq.1,h4⟩
theorem appendFits_c(w:World)(k kb qb:Nat)(a a2:Option Addr)(n cap n2 cap2:Nat)(M:Mask)(y:List Int)(hn:M.length=n)(hn2:y.length=n2)(hm:n<=maxLen)(hm2:n2<=maxLen)(h1:1<=n)(hW:zAL M<=10)(hk:k<=1000)
 (hkb:kb<w.heap.size)(hqb:qb<w.heap.size)(hck:w.cell? ⟨kb,0,none⟩=some (.int .i64 k))(hcq:w.heap[qb]? =some (.cells #[.slice a n cap,.slice a2 n2 cap2] 216 (0,0)))(H:zAT w a M)(H2:zAJ w a2 y):
 Calls Tryz.prog 253 #[.slice none 0 0,.func (.func 254) #[] #[.pointer (some ⟨kb,0,none⟩),.pointer (some ⟨qb,0,none⟩)]] w fun e w'=>
  Below w.heap.size w w'∧∃v base,e=.returned v∧w.heap.size<=base∧zBU w' base (fun q=>w.heap.size<=q) v (zBV M y k):=by
 obtain⟨w1,hw1⟩:=exq (w.alloc (.cells #[.slice none 0 0] 87))
 have hs1:w1.heap.size=w.heap.size+1:=by rw[hw1,World.size_alloc]
 have hb1:Below w.heap.size w w1:=by rw[hw1];exact(Below.refl _ _).alloc (Nat.le_refl _) _
 have hB:Boxed w1 w.heap.size 87 (.slice none 0 0):=by rw[hw1];exact World.alloc_heap_new _ _
 obtain⟨fp,hfp⟩:∃fp:Nat->Prop,fp=fun q=>q<w.heap.size:=⟨_,rfl⟩
 have HIT:=hid (fits_iter w1 fp k kb qb a a2 n cap n2 cap2 M y hn hn2 hm hm2 h1 (by omega) hk (by rw[hfp];intro q hq;show q<w1.heap.size;have:q<w.heap.size:=hq;omega) (by rw[hfp];exact hkb) (by rw[hfp];exact hqb)
  ((hb1.cell (p:=⟨kb,0,none⟩) hkb).trans hck) ((hb1.block _ hqb).trans hcq)
  (fun X _ hX=>by
    have hX2:∀q,q<w.heap.size->X.heap[q]? =w.heap[q]? :=fun q hq=>(hX q (by rw[hfp];exact hq)).trans (hb1.block q hq)
    exact⟨zAT.blk H hX2,zAJ.blk H2 hX2⟩))
 have HCNT:=hid (show(zBV M y k).length<=11264 by
  have h3:=zEN M y (zAL M) (min (min k (zAL M)) M.length+1)
  have h4:2 ^ (zAL M)<=1024:=Nat.pow_le_pow_right (by omega) (show zAL M<=10 by omega)
  have h5:(min (min k (zAL M)) M.length+1)*2 ^ (zAL M)<=11*1024:=Nat.mul_le_mul (by omega) h4
  have h6:(zBV M y k).length=(zBG M y (zAL M) (min (min k (zAL M)) M.length+1)).length:=rfl
  omega)
 have HFP:=hid hfp
 have HW1:=hid hw1
 have HS1:=hid hs1
 have HB1:=hid hb1
 have HBX:=hid hB
 clear hn hn2 hm hm2 h1 hW hk hkb hqb hck hcq H H2 hw1 hs1 hb1 hB hfp
 refine callsIn_wide (n:=0) |>.1 ?_
 refine callsIn_of_wp_marks Tryz.func253 rfl trivial ?_ rfl
 simp only[Tryz.ntmps253,List.size_toArray,List.length_cons,List.length_nil,Nat.reduceAdd,Nat.reduceSub,Array.replicate_succ,Array.replicate_zero,List.push_toArray,List.append_toArray,List.nil_append,List.cons_append]
 gi_wp2
 rw[<- HW1.out]
 refine range_s (gf:=254) (lb:=#[.pointer (some ⟨kb,0,none⟩),.pointer (some ⟨qb,0,none⟩)]) (xs:=zBV M y k) (fp:=fp) (V:=FitV) rfl (enters_of Tryz.func254 (by kernel_rfl) rfl)
  HIT.out (Below.refl _ _) (by rw[HFP.out];intro q h;have:=HS1.out;have:q<w.heap.size:=h;omega)
  (fun Sr pre Z=>ColI w (w1.heap.size+2) Sr pre Z)
  (fun _ _ _ _=>False) ?hI (fun _ _ _ _ _ _ h=>h.elim) ?hV ?h0
  (fun v a' Z=>∃p u1 u2 f0 f1,a'={tmps:=#[.slice none 0 0,f0,.pointer (some ⟨w.heap.size,0,none⟩),undef,.slice none 0 0,.pointer (some ⟨p,0,none⟩),f1,v,undef,undef,undef,undef,undef],defers:=[]}∧v=.agg #[u1,u2]∧w1.heap.size+2<=p∧Z.heap[p]? =some (.cells #[u1,u2] 73 (0,0))) ?hAx ?hassign ?hbody ?hdone ?hstop
 case hI=>
  intro Sr Sr' s A B hIA h1 h2 h3 h4 hk
  exact hIA.keep h2 h3 (by have:=HS1.out;omega) (hk.mono fun k hk=>by have:=HS1.out;exact⟨by omega,by omega,hk.2⟩)
 case hV=>
  intro Sr x v A B hv hk
  exact hv.keep hk (fun k hk=>⟨by omega,by omega⟩)
 case h0=>
  intro Z hk hZ
  have hs1:=HS1.out
  exact⟨hk.below HB1.out HB1.out.size fun k hk=>by omega,hZ,_,(hk.block _ HBX.out.lt (by show _<_;omega)).trans HBX.out,zBU.nil _ _ _⟩
 case hAx=>
  rintro v a' A B ⟨p,u1,u2,f0,f1,e1,e2,hp,hc⟩ hk
  exact⟨p,u1,u2,f0,f1,e1,e2,hp,(hk.block p (Array.getElem?_eq_some_iff.1 hc).1 ⟨by omega,by omega⟩).trans hc⟩
 case hassign=>
  rintro l Sr x v Z K hZ ⟨pa,pn,pc,va,vn,vc,rfl,_⟩ hK
  gi_wp2
  refine hK _ _ ((Below.refl _ _).alloc (Nat.le_refl _) _) ⟨Z.heap.size,_,_,_,_,rfl,rfl,hZ,World.alloc_heap_new Z _⟩
 case hbody=>
  rintro l' Sr pre f _ _ Z hpre hSr hI hv ⟨p,u1,u2,f0,f1,rfl,rfl,hp,hpc⟩ hZ hDo hLo
  obtain⟨v,hvb,hro⟩:=hI.o
  have hFC:FitC Z (fun q=>w1.heap.size+2<=q∧¬Sr q) u1 u2 f:=hv.fitC fun b h1 h2 h3=>⟨h1,h3⟩
  have hcnt:pre.length+1<=11264:=by have h1:=HCNT.out;have h2:=hpre.length_le;simp at h2;omega
  obtain⟨pa,pn,pc,va,vn,vc,e1,e2,_⟩:=id hFC
  subst e1 e2
  have hp0:Z.cell? ⟨p,0,none⟩=some (.slice pa pn pc):=by simp[World.cell?,hpc]
  have hp1:Z.cell? ⟨p,1,none⟩=some (.slice va vn vc):=by simp[World.cell?,hpc]
  have hbc:=hvb.cell
  obtain⟨xs,ho,hg,he⟩:=hro
  obtain⟨i0,hi0,hz0,hz1,hz2⟩:=info_parts info_fit
  have HI:=hid hI
  have HVB:=hid hvb
  have HO:=hid ho
  have HG:=hid hg
  have HE:=hid he
  have HFC:=hid hFC
  have HSR:=hid hSr
  have M1:=hid (show pre.length+1<=maxLen by unfold maxLen;omega)
  have M2:=hid (show(pre.length+1)*48<=140737488355328 by omega)
  have M3:=hid (show w1.heap.size+2<=(Z.alloc (.cells #[.slice pa pn pc,.slice va vn vc] 73)).heap.size by simp;omega)
  have HZ:=hid hZ
  clear hI hvb ho hg he hFC hSr hpre hv hcnt hDo hLo hpc
  gi_wp2_with (gi_at_builtin;go_loud (refine wpListIn_append_own_at _ rfl _ _ 87 rfl (w1.heap.size+2) 73 i0 (.agg #[.slice none 0 0,.slice none 0 0]) 2 48 Tryz.underlying87 hi0 hz0 hz1 hz2 rfl (by decide) v _ _ rfl (HO.out.alloc _) ⟨Z.heap.size,0,none⟩ 1 1 [.slice pa pn pc,.slice va vn vc] rfl rfl (newsD Z _ _ _) (by intro u hu;simp at hu;rcases hu with rfl|rfl<;>rfl) M1.out M2.out M3.out ?_;refine Stop.of ?_))
  refine Stop.go ?_
  intro v5 w9 own5 g5 _ hat5
  obtain⟨a5,c5,rfl⟩:=zAH own5
  have hob:∀q,v.ownBlock=some q->w1.heap.size+2<=q∧¬Sr q:=fun q hq=>HG.out q hq
  have hs1:=HS1.out
  have hzz:=HZ.out
  have hZ1:Below Z.heap.size Z (Z.alloc (.cells #[.slice pa pn pc,.slice va vn vc] 73)):=(Below.refl _ _).alloc (Nat.le_refl _) _
  have hK9:Keep (fun q=>some q≠v.ownBlock) Z w9:=(Keep.of_below hZ1).trans (Keep.grown g5)
  have hS5:∀q,(Value.slice a5 (pre.length+1) c5).ownBlock=some q->w1.heap.size+2<=q∧¬Sr q:=fun q hq=>by
   rcases hat5 with e|e
   ·exact hob q (by rw[<- e];exact hq)
   ·rw[e]at hq
    cases hq
    exact⟨by omega,fun hs=>by have:=(HSR.out _ hs).2;omega⟩
  have hF9:zBU w9 (w1.heap.size+2) (fun q=>w1.heap.size+2<=q∧¬Sr q) (.slice a5 (pre.length+1) c5) (pre++[f]):=zBU.snoc HO.out HE.out HFC.out hZ1 g5 own5 hS5
  have hbx9:Boxed w9 w.heap.size 87 v:=(hK9.block _ HVB.out.lt (by intro e;have:=(hob _ e.symm).1;omega)).trans HVB.out
  have hc9:=hbx9.cell
  have hf9:=hbx9.frozen
  obtain⟨wA,hwA⟩:=exq (w9.setCell ⟨w.heap.size,0,none⟩ (.slice a5 (pre.length+1) c5))
  have kA:Keep (fun q=>q≠w.heap.size) w9 wA:=by rw[hwA];exact Keep.set w9 _ 0 _
  have nA:Boxed wA w.heap.size 87 (.slice a5 (pre.length+1) c5):=by rw[hwA];exact hbx9.set _
  have HA:=hid (And.intro nA (And.intro kA (And.intro hF9 hK9)))
  have HWA:=hid hwA
  have HOB:=hid hob
  clear own5 g5 hat5 hob hK9 hS5 hF9 hbx9 hwA kA nA hs1 hzz hZ1 hi0 hz0 hz1 hz2
  gi_wp2
  rw[<- HWA.out]
  obtain⟨nA,kA,hF9,hK9⟩:=HA.out
  have hs1:=HS1.out
  have kk:Keep (fun q=>q≠w.heap.size∧some q≠v.ownBlock) Z wA:=(hK9.mono fun q hq=>hq.2).trans (kA.mono fun q hq=>hq.1)
  refine⟨kk.size,fun q hq=>?_,?_⟩
  ·have hq1:q<Z.heap.size∧q≠w.heap.size∧some q≠v.ownBlock:=by
    have hzz:=HZ.out
    rcases hq with h|h|h|h
    ·rw[HFP.out]at h
     have h':q<w.heap.size:=h
     exact⟨by omega,by omega,fun e=>by have:=(HOB.out _ e.symm).1;omega⟩
    ·exact⟨by omega,by omega,fun e=>by have:=(HOB.out _ e.symm).1;omega⟩
    ·exact⟨by omega,by omega,fun e=>by have:=(HOB.out _ e.symm).1;omega⟩
    ·have:=HSR.out q h
     exact⟨this.2,by omega,fun e=>(HOB.out _ e.symm).2 h⟩
   exact kk.block q hq1.1 hq1.2
  ·refine⟨kk.below HI.out.b HI.out.b.size fun q hq=>⟨by omega,fun e=>by have:=(HOB.out _ e.symm).1;omega⟩,Nat.le_trans HZ.out kk.size,_,nA,hF9.keep kA fun q hq _=>⟨by have:=hq.1;omega,hq⟩⟩
 case hdone=>
  intro Sr Z hZ hSr hI hmk
  obtain⟨v,hvb,hro⟩:=hI.o
  have hcv:=hvb.cell
  have HI:=hid hI
  have HRO:=hid hro
  have HMR:=hid hmk
  obtain⟨va,vc,rfl⟩:=hro.slice
  clear hI hvb hro hmk hSr
  gi_wp2
  have hs1:=HS1.out
  refine zDT [w1.heap.size] Z (by simp) (fun h hh=>by rw[List.mem_singleton.1 hh];exact HMR.out) fun w' hk=>?_
  refine⟨_,results_tmp rfl _ _ _,hk.below HI.out.b HI.out.b.size (fun k hk hh=>by rw[List.mem_singleton.1 hh]at hk;omega),_,w1.heap.size+2,rfl,by omega,?_⟩
  exact HRO.out.keep hk (fun q hq _=>⟨fun hh=>by have:=hq.1;rw[List.mem_singleton.1 hh]at this;omega,by have:=hq.1;omega⟩)
 case hstop=>
  intro Sr c pre Z hpre hSr hI hmk
  exact hI.elim
end
section
open Go.RowKit
theorem zKT(w:World)(k kb qb:Nat)(a a2:Option Addr)(n cap n2 cap2:Nat)(M:Mask)(y:List Int)(hn:M.length=n)(hn2:y.length=n2)(hm:n<=maxLen)(hm2:n2<=maxLen)(h1:1<=n)(hW:zAL M<=10)(hk:k<=1000)
 (hkb:kb<w.heap.size)(hqb:qb<w.heap.size)(hck:w.cell? ⟨kb,0,none⟩=some (.int .i64 k))(hcq:w.heap[qb]? =some (.cells #[.slice a n cap,.slice a2 n2 cap2] 216 (0,0)))(H:zAT w a M)(H2:zAJ w a2 y):
 Calls Tryz.prog 233 #[.func (.func 254) #[] #[.pointer (some ⟨kb,0,none⟩),.pointer (some ⟨qb,0,none⟩)]] w fun e w'=>
  Below w.heap.size w w'∧∃v base,e=.returned v∧w.heap.size<=base∧zBU w' base (fun q=>w.heap.size<=q) v (zBV M y k):=by
 have HA:=hid (appendFits_c w k kb qb a a2 n cap n2 cap2 M y hn hn2 hm hm2 h1 hW hk hkb hqb hck hcq H H2)
 clear hn hn2 hm hm2 h1 hW hk hkb hqb hck hcq H H2
 go_enter Tryz.func233,Tryz.ntmps233
 go_wp2_with (go_at_call 253;refine HA.out.mono ?_;rintro e w1 ⟨hb,v,base,rfl,hbs,hf⟩)
 go_ret
 exact⟨hb,v,base,rfl,hbs,hf⟩
theorem collect2_c(X:World)(q:Nat)(a a2:Option Addr)(n cap n2 cap2:Nat)(M:Mask)(y:List Int)(hn:M.length=n)(hn2:y.length=n2)(hm:n<=maxLen)(hm2:n2<=maxLen)(h1:1<=n)(hW:zAL M<=10)(hk:q<=1000)(H:zAT X a M)(H2:zAJ X a2 y)(X2:World)(hX2:X2=(X.alloc (.cells #[.slice a n cap,.slice a2 n2 cap2] 216)).alloc (.cells #[.int .i64 (q:Int)] 3)):
 Calls Tryz.prog 233 #[.func (.func 254) #[] #[.pointer (some ⟨X.heap.size+1,0,none⟩),.pointer (some ⟨X.heap.size,0,none⟩)]] X2 fun e w'=>
  Below X2.heap.size X2 w'∧∃v base,e=.returned v∧X2.heap.size<=base∧zBU w' base (fun q=>X2.heap.size<=q) v (zBV M y q):=by
 have hb2:Below X.heap.size X X2:=by rw[hX2];exact((Below.refl _ X).alloc (Nat.le_refl _) _).alloc (by simp) _
 have e1:X2.heap[X.heap.size]? =some (.cells #[.slice a n cap,.slice a2 n2 cap2] 216 (0,0)):=by
  rw[hX2,Below.heap_alloc _ _ _ (by simp)];exact World.alloc_heap_new _ _
 have e2:X2.cell? ⟨X.heap.size+1,0,none⟩=some (.int .i64 (q:Int)):=by
  have:=World.alloc_heap_new (X.alloc (.cells #[.slice a n cap,.slice a2 n2 cap2] 216)) (.cells #[.int .i64 (q:Int)] 3)
  rw[World.size_alloc,<- hX2]at this
  simp[World.cell?,this]
 have hs:X2.heap.size=X.heap.size+2:=by rw[hX2];simp
 exact zKT X2 q (X.heap.size+1) X.heap.size a a2 n cap n2 cap2 M y hn hn2 hm hm2 h1 hW hk (by omega) (by omega) e2 e1 (H.below hb2) (H2.below hb2)
theorem sparseFits_c(w:World)(a a2:Option Addr)(n cap n2 cap2:Nat)(M:Mask)(y:List Int)(k:Int)(hn:M.length=n)(hn2:y.length=n2)(hm:n<=maxLen)(hm2:n2<=maxLen)(H:zAT w a M)(H2:zAJ w a2 y):
 Calls Tryz.prog 197 #[.slice a n cap,.slice a2 n2 cap2,.int .i64 k] w fun e w'=>Below w.heap.size w w'∧((zDN M y k≠0∧e=.returned (.tuple #[.slice none 0 0,.int .i64 (zDN M y k)]))∨
  (zDN M y k=0∧∃v base,e=.returned (.tuple #[v,.int .i64 0])∧w.heap.size<=base∧zBU w' base (fun q=>w.heap.size<=q) v (zBV M y k.toNat))):=by
 have HC:=hid (counted_c w a a2 n cap n2 cap2 M y k hn hn2 hm hm2 H H2)
 by_cases h0:zDN M y k=0
 ·obtain⟨hM,hyn,hyB,_⟩:=zGA (show zBH M y []=0 by
   unfold zDN at h0;split at h0
   ·assumption
   ·exact h0)
  have hk:inB k 0 10=true:=by
   unfold zDN at h0;split at h0
   ·cases hb:inB k 0 10
    ·rw[hb]at h0;simp at h0
    ·rfl
   ·contradiction
  obtain⟨hM',h1,h6,hc1,hc10⟩:=zFA hM
  have hkk:∃q:Nat,k=(q:Int)∧q<=10:=⟨k.toNat,by unfold inB at hk;simp at hk;omega,by unfold inB at hk;simp at hk;omega⟩
  obtain⟨q,rfl,hq10⟩:=hkk
  have HCO:=hid (fun(X:World) (hX:Below w.heap.size w X) (X2:World)=>collect2_c X q a a2 n cap n2 cap2 M y hn hn2 hm hm2 (by omega) hc10 (by omega) (H.below hX) (H2.below hX) X2)
  rw[h0]at HC⊢
  rw[Int.toNat_natCast]
  obtain⟨F,hF⟩:=exq (zBV M y q)
  rw[<- hF]at HCO⊢
  clear hn hn2 hm hm2 H H2 h0 hM hyn hyB hk hM' h1 h6 hc1 hc10 hF
  go_enter Tryz.func197,Tryz.ntmps197
  go_wp2_with (go_at_call 232;refine HC.out.mono ?_;rintro e w1 ⟨rfl,hb1⟩;refine Stop.of ?_)
  refine Stop.go ?_
  have HB1:=hid hb1
  clear hb1
  go_wp2_with (go_at_call 234;refine(qfits_c _ _ _ _ _ _ _ _).mono ?_;rintro e w2 ⟨rfl,hw2⟩;have HW2:=hid hw2;clear hw2;refine Stop.of ?_)
  refine Stop.go ?_
  have hco:=HCO.out w1 HB1.out w2 HW2.out
  have HC2:=hid hco
  have HB12:=hid (show Below w1.heap.size w1 w2 by rw[HW2.out];exact((Below.refl _ w1).alloc (Nat.le_refl _) _).alloc (by simp) _)
  clear hco
  go_wp2_with (go_at_call 233;refine HC2.out.mono ?_;rintro e w3 ⟨hb3,v,base,rfl,hbs,hf⟩)
  go_ret2
  exact⟨zAA HB1.out (zAA HB12.out hb3),.inr ⟨trivial,v,base,rfl,by have:=HB1.out.size;have:=HB12.out.size;omega,hf.keep (Keep.refl (fun _=>True) _) fun q hq _=>⟨trivial,by have:=HB1.out.size;have:=HB12.out.size;omega⟩⟩⟩
 ·have hne:(zDN M y k !=0)=true:=by simpa using h0
  have H0:=hid h0
  obtain⟨E,hE⟩:=exq (zDN M y k)
  rw[<- hE]at HC hne H0⊢
  clear hn hn2 H H2 h0 hE
  go_enter Tryz.func197,Tryz.ntmps197
  go_wp2_with (go_at_call 232;refine HC.out.mono ?_;rintro e w1 ⟨rfl,hb1⟩)
  go_ret2
  exact⟨hb1,.inl ⟨H0.out,rfl⟩⟩
theorem dfits_c(w:World)(a a2:Option Addr)(n cap n2 cap2:Nat)(M:Mask)(y:List Int)(hn:M.length=n)(hn2:y.length=n2)(hm:n<=maxLen)(hm2:n2<=maxLen)(H:zAT w a M)(H2:zAJ w a2 y)(h0:zBH M y []=0):
 Calls Tryz.prog 135 #[.agg #[.slice a n cap,.slice a2 n2 cap2]] w fun e w'=>Below w.heap.size w w'∧∃v base,e=.returned v∧w.heap.size<=base∧zBU w' base (fun q=>w.heap.size<=q) v (zBV M y 10):=by
 obtain⟨wz,hwz⟩:=exq (w.alloc (.cells #[.slice a n cap,.slice a2 n2 cap2] 86))
 have hbz:Below w.heap.size w wz:=by rw[hwz];exact(Below.refl _ _).alloc (Nat.le_refl _) _
 have l0:wz.cell? ⟨w.heap.size,0,none⟩=some (.slice a n cap):=by rw[hwz,World.cell?_alloc_at _ _ _ _ rfl];rfl
 have l1:wz.cell? ⟨w.heap.size,1,none⟩=some (.slice a2 n2 cap2):=by rw[hwz,World.cell?_alloc_at _ _ _ _ rfl];rfl
 have hc:zDN M y 10=0:=by unfold zDN;rw[if_pos h0];decide
 have HF:=hid (sparseFits_c wz a a2 n cap n2 cap2 M y 10 hn hn2 hm hm2 (H.below hbz) (H2.below hbz))
 rw[hc]at HF
 have HBZ:=hid hbz
 obtain⟨F,hF⟩:=exq (zBV M y 10)
 have hF2:F=zBV M y (10:Int).toNat:=hF
 rw[<- hF]
 rw[<- hF2]at HF
 have HW:=hid hwz
 clear hn hn2 hm hm2 H H2 h0 hbz hc hF hF2 hwz
 go_enter Tryz.func135,Tryz.ntmps135
 go_upto_region 1 with fail
 rw[<- HW.out]
 go_wp2_with (go_at_call 197;refine HF.out.mono ?_;rintro e w3 ⟨hb3,⟨hx,_⟩|⟨_,v,base,rfl,hbs,hf⟩⟩;first|exact absurd rfl hx|skip)
 go_ret
 exact⟨zAA HBZ.out hb3,v,base,rfl,Nat.le_trans HBZ.out.size hbs,hf.keep (Keep.refl (fun _=>True) _) fun q hq _=>⟨trivial,Nat.le_trans HBZ.out.size hq⟩⟩
end
section
section
theorem zDU{α:Type}(f:Nat->α)(g:Nat->Nat)(l:List α):∀(K:Nat),((List.range K).foldl (fun out i=>out.set (g i) (f i)) l).length=l.length
 |0=>by simp
 |K+1=>by rw[List.range_succ,List.foldl_append];simp[zDU f g l K]
theorem zHH{α:Type}(f:Nat->α)(g:Nat->Nat)(l:List α):∀(K i:Nat),i<K->g i<l.length->(∀a b,a<b->b<K->g a≠g b)->((List.range K).foldl (fun out i=>out.set (g i) (f i)) l)[g i]? =some (f i)
 |0,i,h,_,_=>by omega
 |K+1,i,h,hl,hd=>by
  rw[List.range_succ,List.foldl_append]
  simp only[List.foldl_cons,List.foldl_nil]
  by_cases e:i=K
  ·subst e
   rw[List.getElem?_set_self (by rw[zDU];exact hl)]
  ·rw[List.getElem?_set_ne (fun e2=>hd i K (by omega) (by omega) e2.symm)]
   exact zHH f g l K i (by omega) hl (fun a b h1 h2=>hd a b h1 (by omega))
end
section
open Go.RowKit
def rdE(M:Mask)(y:List Int):Int:=if okM M=true then readE M y else 1
theorem rd_check(M:Mask)(y:List Int):rdE M y=zBH M y []:=by
 unfold rdE zBH readE pixE zDX
 cases okM M<;>simp[ascB]
theorem rd_ok{M:Mask}{y:List Int}(h:rdE M y=0):okM M=true∧y.length=M.length∧milB y=true:=by
 rw[rd_check]at h
 obtain⟨h1,h2,h3,_⟩:=zGA h
 exact⟨h1,h2,h3⟩
end
section
open Go.RowKit
end
section
open Go.RowKit
end
end
section
open Go.RowKit
open Classical in
noncomputable def lift (W X:World):World:=if Below W.heap.size W X then X else W
theorem zBZ(W X:World):Below W.heap.size W (lift W X):=by
 unfold lift;split
 ·assumption
 ·exact Below.refl _ _
theorem lift_of{W X:World}(h:Below W.heap.size W X):X=lift W X:=by unfold lift;rw[if_pos h]
theorem zAM{W:World}{b o:Nat}{v:Value}(hb:b<W.heap.size)(h:W.cell? ⟨b,o,none⟩=some v):∀X,(lift W X).cell? ⟨b,o,none⟩=some v:=fun X=>((zBZ W X).cell (p:=⟨b,o,none⟩) hb).trans h
theorem zBJ{P:Program}{f:FuncId}{args:Array Value}{W X:World}{v:Value}(h:Calls P f args (lift W X) fun e w'=>e=.returned v∧Below (lift W X).heap.size (lift W X) w'):
 Calls P f args (lift W X) fun e w''=>e=.returned v∧∃Y,w''=lift W Y:=
 h.mono fun e w' ⟨he,hb⟩=>⟨he,w',lift_of (zAA (zBZ W X) hb)⟩
theorem zCI{P:Program}{id:Nat}{Q:Exit->Act->World->Prop}{a:Act}{w:World}{l:List Oper}(hm:P.follows .mixedOrders=true)(hB:Region.lexB .any l.toArray=true)
 (h:wpQuiet P l.toArray (fun w'=>∃X,w'=lift w X) (fun a'=>∀w',(∃X,w'=lift w X)->Q .normal a' w') l a):(Code.region id l.toArray true).wp P Q a w:=
 wp_region_quiet (C:=fun w'=>∃X,w'=lift w X) hm hB ⟨_,lift_of (⟨rfl,rfl,rfl,Nat.le_refl _,fun _ _=>rfl⟩:Below w.heap.size w {w with drawn:=w.drawn+1})⟩ (by simpa using h)
end
end Go.Proofs.YtlffndehhhpgjaaGreat
