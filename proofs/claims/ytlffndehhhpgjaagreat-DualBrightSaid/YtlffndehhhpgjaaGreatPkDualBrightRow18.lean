/- Walks and plain laws for DualBrightRow, part 18. -/
import Derived.Test.YtlffndehhhpgjaaGreatPkDualBrightRow17
namespace Go.Proofs.YtlffndehhhpgjaaGreat
set_option linter.unusedVariables false
set_option linter.unusedSimpArgs false
set_option maxRecDepth 100000
set_option maxHeartbeats 4000000
open _root_.List renaming getElem?_eq_getElem → yAA, getElem_mem → yAH, take_succ_eq_append_getElem → yAI, take_of_length_le → yAL, mem_iff_getElem → yAM, length_append → yAN, getElem?_append_left → yAO, getElem?_append_right → yAQ, length_map → yAS, all_eq_true → yAT, length_take → yAU, length_cons → yBB, append_nil → yBC, map_append → yBF, getElem_cons_zero → yBG, getElem_append_right → yBL, mem_of_getElem? → yBM, getElem_append_left → yBO, length_eq_zero_iff → yBT, mem_singleton → yCB, length_nil → yCD, filter_append → yCK, set_append_right → yCZ, cons_append → yDG, nil_append → yDL, any_eq_true → yDO, append_toArray → yDR, not_all_eq_any_not → yDU, size_toArray → yED, replicate_succ → yEE, push_toArray → yEF, length_filter_le → yEK, map_cons → yFS, replicate_zero → yGI, filter_cons_of_pos → yGU, filter_cons_of_neg → yGV
open _root_.Nat renaming le_refl → yAC, le_trans → yAF, lt_of_lt_of_le → yAJ, zero_le → yAK, lt_or_ge → yAP, mul_le_mul → yAV, zero_add → yAW, sub_self → yCF, pow_le_pow_right → yCG, add_zero → yDS
open _root_.Array renaming getElem?_eq_some_iff → yAB, replicate_zero → yDI, replicate_succ → yDJ
open _root_.Option renaming getD_some → yBA
section
open Go.RowKit
theorem ddim_c(w:World)(N D:Int):Calls Tryz.prog 127 #[.agg #[.int .i64 N,.int .i64 D]] w fun e w'=>e=.returned (.bool (decide (N<0)))∧Below w.heap.size w w':=by
 obtain⟨wz,hwz⟩:=exq (w.alloc (.cells #[.int .i64 N,.int .i64 D] 29))
 have HB:=hid (show Below w.heap.size w wz by rw[hwz];exact(Below.refl _ _).alloc (yAC _) _)
 have l0:wz.cell? ⟨w.heap.size,0,none⟩=some (.int .i64 N):=by rw[hwz,World.cell?_alloc_at _ _ _ _ rfl];rfl
 by_cases h:N<0
 ·go_enter Tryz.func127,Tryz.ntmps127
  go_upto_region 1 with fail
  rw[<- hwz]
  clear hwz
  go_wp2
  go_ret
  exact⟨zAP (by simp[h]),HB.out⟩
 ·go_enter Tryz.func127,Tryz.ntmps127
  go_upto_region 1 with fail
  rw[<- hwz]
  clear hwz
  go_wp2
  go_ret
  exact⟨zAP (by simp[h]),HB.out⟩
theorem any_dim(x:List Rt):x.any (fun r=>decide (r.1<0))=!x.all (fun r=>decide (0<=r.1)):=by
 rw[yDU]
 congr 1
 funext r
 rw[Bool.eq_iff_iff];simp
theorem dims_c(w:World)(a:Option Addr)(n cap:Nat)(x:List Rt)(hn:x.length=n)(hm:n<=maxLen)(H:zCB w a x):
 Calls Tryz.prog 80 #[.slice a n cap,.func (.func 127) #[] #[]] w fun e w'=>e=.returned (.bool (!x.all (fun r=>decide (0<=r.1))))∧Below w.heap.size w w':=by
 have h:=zOG w a n cap x hn hm H 127 #[] (fun r=>decide (r.1<0)) (fun r W hW=>ddim_c W r.1 r.2) (enters_of Tryz.func127 (by kernel_rfl) rfl)
 rw[any_dim]at h;exact h
theorem zCS.atS{w1 X:World}{base:Nat}{S:Nat->Prop}{v:Value}{T:List FitT}(h:zCS w1 base S v T)(hs:w1.heap.size<=X.heap.size)(hk:∀b,S b->b<w1.heap.size->X.heap[b]? =w1.heap[b]?):∃a cap,v=.slice a T.length cap∧zGI X a T:=by
 have k:Keep (fun b=>S b) w1 {w1 with heap:=X.heap}:=⟨rfl,rfl,rfl,hs,fun k hk' hS=>hk k hS hk'⟩
 obtain⟨a,cap,e,_,hf⟩:=(h.keep (S':=S) k (fun b hb _=>⟨hb,hb⟩)).fitsO.reads
 exact⟨a,cap,e,hf⟩
def LitV(Wd lo:Nat)(S:Nat->Prop)(f:FitT)(v:Value)(W:World):Prop:=∃g,v=.slice (some ⟨g,0,none⟩) Wd Wd∧lo<=g∧¬S g∧zBO W g (sprF Wd f)
structure LitI (w0 W w1:World) (fp:Nat->Prop) (J:(Nat->Prop)->List FitT->World->Prop) (F:List FitT) (t:Nat) (X:World):Prop where
 j:J (fun q=>W.heap.size<=q∧q<w1.heap.size) ((F.take t).filter zDM) X
 s:w1.heap.size<=X.heap.size
 k:∀q,W.heap.size<=q->q<w1.heap.size->X.heap[q]? =w1.heap[q]?
 f:∀q,fp q->X.heap[q]? =w0.heap[q]?
theorem lights_iter(w0:World)(fp:Nat->Prop)(qb:Nat)(a a2:Option Addr)(n cap n2 cap2:Nat)(M:Mask)(y:List Int)(hn:M.length=n)(hn2:y.length=n2)(hm:n<=maxLen)(hm2:n2<=maxLen)(h0:rdE M y=0)
 (hfp:∀q,fp q->q<w0.heap.size)(hqb:fp qb)(hcq:w0.heap[qb]? =some (.cells #[.slice a n cap,.slice a2 n2 cap2] 86 (0,0)))
 (hR:∀X:World,w0.heap.size<=X.heap.size->(∀q,fp q->X.heap[q]? =w0.heap[q]?)->zAM X a M∧zAH X a2 y):
 IterS Tryz.prog 172 #[.pointer (some ⟨qb,0,none⟩)] (LitV (zAD M)) (zCQ M y) fp w0:=by
 intro l J Jx W hb hJx hJ hY hj0
 obtain⟨hok,hy,hmil⟩:=zOV h0
 obtain⟨_,h1n,h6,hc1,hc10⟩:=zCR hok
 have hFW:∀q,fp q->W.heap[q]? =w0.heap[q]? :=fun q hq=>hb.block q (hfp q hq)
 obtain⟨rR,rI⟩:=hR W hb.size hFW
 have HDF:=hid (dfits_c W a a2 n cap n2 cap2 M y hn hn2 hm hm2 rR rI (by rw[<- zQW];exact h0))
 have HJ:=hid hJ
 have HY:=hid hY
 have HJ0:=hid hj0
 have HFW:=hid hFW
 have HFP:=hid hfp
 have HB:=hid hb
 have HRA:=hid (fun(X:World) (h1:w0.heap.size<=X.heap.size) (h2:∀q,fp q->X.heap[q]? =w0.heap[q]?)=>(hR X h1 h2).1)
 have HQ:=hid (show ∀X:World,(∀q,fp q->X.heap[q]? =w0.heap[q]?)->X.cell? ⟨qb,0,none⟩=some (.slice a n cap)∧X.cell? ⟨qb,1,none⟩=some (.slice a2 n2 cap2)from fun X hX=>by
  have h1:=(hX qb hqb).trans hcq
  exact⟨by simp[World.cell?,h1],by simp[World.cell?,h1]⟩)
 have HFC:=hid (fun(f:FitT) (hf:f∈zBZ M y 10)=>show zCI (zAD M) f.1∧f.2.length=f.1.length∧f.1.length<=10 from by
  obtain⟨k1,k2,_⟩:=zHF hok hy hmil hf
  exact⟨k1,k2,by have:=zPJ k1;omega⟩)
 have HPC:=hid (fun(X:World) (us ur:Value) (f:FitT) (hX:zAM X a M) (hd:HdF X us ur f) (hf:zCI (zAD M) f.1∧f.2.length=f.1.length∧f.1.length<=10)=>qpicture_c X a n cap M (zAD M) (.slice a2 n2 cap2) us ur f hn (by omega) rfl hc1 hc10 hX hd hf.1 hf.2.1 hf.2.2 a2 n2 cap2 rfl)
 have HLN:=hid (show(zBZ M y 10).length<=11264 by
  have h3:=zDF M y (zAD M) (min (min 10 (zAD M)) M.length+1)
  have h4:2 ^ (zAD M)<=1024:=yCG (by omega) (show zAD M<=10 by omega)
  have h5:(min (min 10 (zAD M)) M.length+1)*2 ^ (zAD M)<=11*1024:=yAV (by omega) h4
  have h6:(zBZ M y 10).length=(zBT M y (zAD M) (min (min 10 (zAD M)) M.length+1)).length:=rfl
  omega)
 have HLF:=hid (show zCQ M y=(zBZ M y 10).filter zDM from rfl)
 obtain⟨F,hF⟩:=exq (zBZ M y 10)
 rw[<- hF]at HDF HFC HLN HLF
 obtain⟨Wd,hWd⟩:=exq (zAD M)
 rw[<- hWd]at HPC HFC hY
 obtain⟨c0,c1⟩:=HQ.out W hFW
 have HYY:=hid hY
 clear hJ hJx hY hj0 hR hfp hb hn hn2 hm hm2 h0 hok hy hmil h1n h6 hc1 hc10 hFW rR rI hF hWd hqb hcq
 refine callsIn_of_wp Tryz.func172 rfl trivial ?_ rfl
 simp only[Tryz.ntmps172,yED,yBB,yCD,Nat.reduceAdd,Nat.reduceSub,yDJ,yDI,yEF,yDR,yDL,yDG]
 gi_wp2_with (refine⟨trivial,rfl,?_⟩;gi_at_call 135;refine(callsIn_wide.2 HDF.out).mono ?_;rintro e w1 ⟨hb1,v,base,rfl,hbase,hfn⟩;refine Stop.of ?_)
 refine Stop.go ?_
 obtain⟨fa,fc,rfl⟩:=hfn.slice
 have HFN:=hid (fun(X:World) (hs:w1.heap.size<=X.heap.size) (hk:∀q,W.heap.size<=q->q<w1.heap.size->X.heap[q]? =w1.heap[q]?)=>show zGI X fa F from by
  obtain⟨a',c',e,hf⟩:=hfn.atS hs (fun b hb hl=>hk b hb hl)
  cases e
  exact hf)
 obtain⟨NF,hNF⟩:=exq (F.length)
 rw[<- hNF]at HLN⊢
 have HNF:=hid hNF
 have hln:=HLN.out
 have HIT:=hid (show LitI w0 W w1 fp J F 0 w1 from⟨HJ.out _ _ _ _ _ HJ0.out (fun _ h=>h.elim) (fun q hq=>.inr hq.1) (Keep.of_below hb1),yAC _,fun _ _ _=>rfl,fun q hq=>(hb1.block q (yAJ (HFP.out q hq) HB.out.size)).trans (HFW.out q hq)⟩)
 have HB1:=hid hb1
 clear c0 c1 hNF hfn hbase hb1
 gi_wp2
 gi_loopw [8] (fun i wr=>∃t:Nat,t<=NF∧i=.int .i64 t∧LitI w0 W w1 fp J F t wr) (fun i _=>NF-(intOf i).toNat)
 case atStart=>exact⟨0,yAK _,rfl,HIT.out⟩
 case round=>
  obtain⟨t,ht,rfl,hI⟩:=hrel
  have HI:=hid hI
  have hw0r:w0.heap.size<=wr.heap.size:=yAF HB.out.size (yAF HB1.out.size hI.s)
  by_cases hlt:t<NF
  ·have hkl:t<F.length:=by rw[<- HNF.out];exact hlt
   obtain⟨fb,off,us,ur,rfl,hfb,hq0,hq1,hd⟩:=(HFN.out wr hI.s hI.k).hd hkl
   have hff:=HFC.out _ (yAH hkl)
   obtain⟨f,hf⟩:=exq (F[t]'hkl)
   rw[<- hf]at hd hff
   have htk:F.take (t+1)=F.take t++[f]:=by rw[yAI hkl,hf]
   obtain⟨pa,pn,pc,va,vn,vc,rfl,rfl,k1,k2,k3,k4,k5,k6⟩:=id hd
   obtain⟨wa,hwa⟩:=exq (wr.alloc (.cells #[.slice pa pn pc,.slice va vn vc] 73))
   have hba:Below wr.heap.size wr wa:=by rw[hwa];exact(Below.refl _ _).alloc (yAC _) _
   obtain⟨g,hg⟩:=exq (wr.heap.size)
   have hga:wa.heap[g]? =some (.cells #[.slice pa pn pc,.slice va vn vc] 73 (0,0)):=by rw[hwa,hg];exact World.alloc_heap_new _ _
   have hgl:g<wa.heap.size:=(yAB.1 hga).1
   have HGC:=hid (fun(X:World) (hX:Below wa.heap.size wa X)=>show X.cell? ⟨g,0,none⟩=some (.slice pa pn pc)∧X.cell? ⟨g,1,none⟩=some (.slice va vn vc)from by
    have h1:=(hX.block g hgl).trans hga
    exact⟨by simp[World.cell?,h1],by simp[World.cell?,h1]⟩)
   have HCF:=hid (dims_c wa va vn vc f.2 k4 k5 (k6.below hba))
   have HFX:=hid (fun(X:World) (hX:Below wr.heap.size wr X)=>show ∀q,fp q->X.heap[q]? =w0.heap[q]? from fun q hq=>(hX.block q (yAJ (HFP.out q hq) hw0r)).trans (HI.out.f q hq))
   have HKX:=hid (fun(X:World) (hX:Below wr.heap.size wr X)=>show ∀q,W.heap.size<=q->q<w1.heap.size->X.heap[q]? =w1.heap[q]? from fun q h1 h2=>(hX.block q (yAJ h2 HI.out.s)).trans (HI.out.k q h1 h2))
   have HHD:=hid (fun(X:World) (hX:Below wr.heap.size wr X)=>HPC.out X _ _ f (HRA.out X (yAF hw0r hX.size) (HFX.out X hX)) (hd.below hX) hff)
   have HSZ:=hid (fun(X:World) (hX:Below wr.heap.size wr X)=>show w1.heap.size<=X.heap.size from yAF HI.out.s hX.size)
   have HBA:=hid hba
   have HTK:=hid htk
   have HW0:=hid hw0r
   obtain⟨lb,hlb⟩:=exq (f.2.all (fun r=>decide (0<=r.1)))
   rw[<- hlb]at HCF
   have HLB:=hid (show zDM f=lb from hlb.symm)
   have i1:(t:Int)<(NF:Int):=by omega
   obtain⟨c0,c1⟩:=HQ.out _ (HFX.out wr (Below.refl _ _))
   clear hI hw0r hkl hf hd hff htk k1 k2 k3 k4 k5 k6 hba hga hgl hlb
   have hgw:wr.alloc (.cells #[.slice pa pn pc,.slice va vn vc] 73)=wa:=hwa.symm
   have HGW:=hid hgw
   have HGG:=hid hg
   clear hwa hgw hg
   gi_wp2_with (refine⟨trivial,rfl,?_⟩;rw[<- HGG.out,HGW.out];gi_at_call 80;refine(callsIn_wide.2 HCF.out).mono ?_;rintro e w2 ⟨rfl,hb2⟩;refine Stop.of ?_)
   refine Stop.go ?_
   have HB2:=hid (zAA HBA.out hb2)
   obtain⟨g0,g1⟩:=HGC.out w2 hb2
   obtain⟨c0,c1⟩:=HQ.out _ (HFX.out w2 HB2.out)
   clear hb2 HCF
   cases lb
   ·have HI2:=hid (show LitI w0 W w1 fp J F (t+1) w2 from⟨by rw[HTK.out,yCK,yGV (by rw[HLB.out];simp),List.filter_nil,yBC];exact HJ.out _ _ _ _ _ HI.out.j (fun _ h=>h) (fun _ h=>.inl h) (Keep.of_below HB2.out),HSZ.out _ HB2.out,HKX.out _ HB2.out,HFX.out _ HB2.out⟩)
    gi_wp2
    refine⟨trivial,?_⟩
    gi_wp2
    refine⟨fun _ h=>(by cases h),?_⟩
    gi_wp2
    refine⟨⟨t+1,by omega,by go_num,HI2.out⟩,by simp[intOf];omega⟩
   ·have HP:=hid (HHD.out w2 HB2.out)
    gi_wp2_with (refine⟨trivial,rfl,?_⟩;gi_at_call 99;refine(callsIn_wide.2 HP.out).mono ?_;rintro e w3 ⟨gp,rfl,hgp,hrp,hb3⟩;refine Stop.of ?_)
    refine Stop.go ?_
    have hB3:=zAA HB2.out hb3
    have hflt:(F.take (t+1)).filter zDM=(F.take t).filter zDM++[f]:=by
     rw[HTK.out,yCK,yGU (by rw[HLB.out]),List.filter_nil]
    have hpre:(F.take t).filter zDM++[f] <+: zCQ M y:=by
     rw[<- hflt,HLF.out]
     exact(List.take_prefix _ _).filter _
    have hs2:=HSZ.out _ HB2.out
    have hs3:=HSZ.out _ hB3
    have hW1:=HB1.out.size
    have hyk:=HYY.out (fun q=>W.heap.size<=q∧q<w1.heap.size) ((F.take t).filter zDM) f (.slice (some ⟨gp,0,none⟩) Wd Wd) w3 hpre (fun q hq=>⟨hq.1,yAJ hq.2 hs3⟩) (yAF hW1 hs3)
     (HJ.out _ _ _ _ _ HI.out.j (fun _ h=>h) (fun _ h=>.inl h) (Keep.of_below hB3)) ⟨gp,rfl,by omega,fun h=>by have:=h.2;omega,hrp⟩
    have HB3:=hid hB3
    have HPRE:=hid hpre
    have HFLT:=hid hflt
    have HS3:=hid hs3
    clear hB3 hflt hpre hs2 hs3 hgp hrp hb3 hW1 g0 g1 c0 c1
    obtain⟨fn,tmps,assign,body,hy,hR⟩:=hyk
    gi_wp2
    refine⟨rfl,hR.mono ?_⟩
    clear hR hy
    rintro e W3 ⟨⟨hs3,hk3⟩,⟨rfl,hJ3⟩|⟨rfl,hJx⟩⟩
    ·have HI2:=hid (show LitI w0 W w1 fp J F (t+1) W3 from⟨by rw[HFLT.out];exact hJ3,yAF HS3.out hs3,fun q h1 h2=>(hk3 q (.inr ⟨h1,h2⟩)).trans (HKX.out _ HB3.out q h1 h2),fun q hq=>(hk3 q (.inl hq)).trans (HFX.out _ HB3.out q hq)⟩)
     clear hJ3 hk3 hs3
     gi_wp2
     refine⟨⟨t+1,by omega,by go_num,HI2.out⟩,by simp[intOf];omega⟩
    ·gi_wp2
     refine bodyPost_ret (results_none rfl _ _ _) rfl ?_
     exact⟨⟨_,rfl⟩,.inr ⟨_,_,HPRE.out,hJx⟩⟩
  ·obtain rfl:t=NF:=by omega
   have hlt':decide ((t:Int)<(t:Int))=false:=by simp
   have HJF:=hid (show J (fun q=>W.heap.size<=q∧q<w1.heap.size) (zCQ M y) wr from by
    have:=HI.out.j
    rw[yAL (by rw[<- HNF.out];exact yAC _),<- HLF.out]at this
    exact this)
   clear hI hw0r
   gi_wp2
   refine bodyPost_end (results_none rfl _ _ _) rfl ?_
   exact⟨⟨_,rfl⟩,.inl ⟨_,fun q hq=>⟨hq.1,yAJ hq.2 HI.out.s⟩,HJF.out⟩⟩
end
section
open Go.RowKit
attribute [local go_sem] Oper.semAt_some
theorem dlights_c(w:World)(a a2:Option Addr)(n cap n2 cap2:Nat):
 Calls Tryz.prog 114 #[.agg #[.slice a n cap,.slice a2 n2 cap2]] w fun e w'=>
  e=.returned (.func (.func 172) #[] #[.pointer (some ⟨w.heap.size,0,none⟩)])∧w'=w.alloc (.cells #[.slice a n cap,.slice a2 n2 cap2] 86):=by
 have hmf:∀(fn:Fn) (first cap:Array Value) (w:World),(Instr.makeFunc fn first cap).run Tryz.prog w=.ok (.func fn first cap) w:=fun _ _ _ _=>rfl
 go_enter Tryz.func114,Tryz.ntmps114
 go_wp2
 go_ret
 exact⟨rfl,rfl⟩
end
section
open Go.RowKit
attribute [local go_sem] Oper.semAt_some
def zHT(W:World)(base:Nat)(S:Nat->Prop)(v:Value)(Wd:Nat)(L:List (List Rt)):Prop:=
 ∃vs,W.ownsRow base 42 1 v L.length vs∧(∀k,v.ownBlock=some k->S k)∧∀j (hj:j<L.length),∃g,vs[j]? =some (.slice (some ⟨g,0,none⟩) Wd Wd)∧S g∧L[j].length=Wd∧zBO W g L[j]
theorem zHT.nil(W:World)(base:Nat)(S:Nat->Prop)(Wd:Nat):zHT W base S (.slice none 0 0) Wd []:=⟨[],World.ownsRow_nil _ _ _ _,fun k hk=>by simp[Value.ownBlock]at hk,fun j hj=>by simp at hj⟩
theorem zHT.slice{W:World}{base Wd:Nat}{S:Nat->Prop}{v:Value}{L:List (List Rt)}(h:zHT W base S v Wd L):∃a c,v=.slice a L.length c:=by
 obtain⟨vs,ho,_⟩:=h;exact zAC ho
theorem zHT.keep{W W':World}{base Wd:Nat}{S S' K:Nat->Prop}{v:Value}{L:List (List Rt)}(h:zHT W base S v Wd L)(hk:Keep K W W')(hS:∀b,S b->b<W.heap.size->K b∧S' b):zHT W' base S' v Wd L:=by
 obtain⟨xs,ho,hg,he⟩:=h
 refine⟨xs,⟨ho.1,?_⟩,fun k hk'=>?_,fun j hj=>?_⟩
 ·rcases ho.2 with hn|⟨g,cap,cur,rfl,hb,hgg,rest⟩
  ·exact .inl hn
  ·have hlt:=(yAB.1 hgg).1
   exact .inr ⟨g,cap,cur,rfl,hb,(hk.block g hlt (hS g (hg g rfl) hlt).1).trans hgg,rest⟩
 ·rcases ho.2 with⟨rfl,_⟩|⟨g,cap,cur,rfl,hb,hgg,rest⟩
  ·simp[Value.ownBlock]at hk'
  ·obtain rfl:g=k:=by simpa[Value.ownBlock]using hk'
   exact(hS g (hg g rfl) (yAB.1 hgg).1).2
 ·obtain⟨g,h1,h2,h3,h4⟩:=he j hj
  exact⟨g,h1,(hS g h2 h4.lt).2,h3,h4.keep (hk.block g h4.lt (hS g h2 h4.lt).1)⟩
theorem zHT.reads{W:World}{base Wd n c:Nat}{S:Nat->Prop}{a:Option Addr}{L:List (List Rt)}(h:zHT W base S (.slice a n c) Wd L)(hw:Wd<=maxLen):L.length=n∧n<=maxLen∧zKD W a L:=by
 obtain⟨vs,h1,_,h2⟩:=h
 rcases h1.2 with⟨e,h0⟩|⟨g,cap,cur,e,hbg,hgg,hnc,hcm,hsz,htk⟩
 ·cases e
  exact⟨h0,by unfold maxLen;omega,fun j hj=>by omega⟩
 ·cases e
  refine⟨rfl,by omega,fun j hj=>?_⟩
  obtain⟨q,hu,_,hl,hr⟩:=h2 j hj
  have hc:=World.ownsRow.cellAt (w:=W) (base:=base) (e:=42) (size:=1) (g:=g) (n:=L.length) (cap:=c) (xs:=vs) h1 j (by omega)
  obtain⟨b',c',e',_,hra⟩:=(zBO.own (base:=0) hr hl hw (yAK _)).reads
  rw[hl]at e'
  cases e'
  exact⟨g,0,some ⟨q,0,none⟩,Wd,Wd,rfl,(yAB.1 hgg).1,by rw[yAW,hc,hu],hl,hw,hra⟩
theorem zHT.snoc{W w1 w2:World}{base Wd g0:Nat}{S:Nat->Prop}{v v':Value}{L:List (List Rt)}{x:List Rt}{xs:List Value}
 (ho:W.ownsRow base 42 1 v L.length xs)(he:∀j (hj:j<L.length),∃g,xs[j]? =some (.slice (some ⟨g,0,none⟩) Wd Wd)∧S g∧L[j].length=Wd∧zBO W g L[j])(h1:S g0)(h2:x.length=Wd)(h3:zBO W g0 x)
 (hW1:Below W.heap.size W w1)(hg:w1.grownBy w2 v.ownBlock)(ho':w2.ownsRow base 42 1 v' (L.length+1) (xs++[.slice (some ⟨g0,0,none⟩) Wd Wd]))(hS':∀k,v'.ownBlock=some k->S k):zHT w2 base S v' Wd (L++[x]):=by
 have hlen:xs.length=L.length:=by have:=ho.1;omega
 have hk:Keep (fun b=>some b≠v.ownBlock) W w2:=(Keep.of_below hW1).trans (Keep.grown hg)
 have hel:∀g l,zBO W g l->zBO w2 g l:=fun g l h=>h.keep (hk.block g h.lt (by
  rcases ho.2 with⟨rfl,_⟩|⟨q,cap,cur,rfl,hbg,hgg,_⟩
  ·simp[Value.ownBlock]
  ·intro e
   obtain rfl:g=q:=by simpa[Value.ownBlock]using e
   unfold zBO at h
   rw[h]at hgg
   cases hgg))
 refine⟨xs++[.slice (some ⟨g0,0,none⟩) Wd Wd],by rw[yAN];exact ho',hS',fun j hj=>?_⟩
 by_cases e:j<L.length
 ·obtain⟨g,k1,k2,k3,k4⟩:=he j e
  refine⟨g,by rw[yAO (by omega)];exact k1,k2,?_,?_⟩
  ·rw[yBO e];exact k3
  ·rw[yBO e];exact hel _ _ k4
 ·have:j=L.length:=by simp at hj;omega
  subst this
  refine⟨g0,by rw[yAQ (by omega),hlen];simp,h1,?_,?_⟩
  ·simp only[yBL (yAC _),yCF,yBG];exact h2
  ·simp only[yBL (yAC _),yCF,yBG];exact hel _ _ h3
theorem info_rats:(Tryz.prog.info? 42).map (fun i=>(i.zero,i.size,i.bytes))=some (some (.slice none 0 0),1,24):=by kernel_rfl
structure ColQ (w:World) (base Wd:Nat) (Sr:Nat->Prop) (pre:List FitT) (Z:World):Prop where
 b:Below w.heap.size w Z
 z:base<=Z.heap.size
 o:∃v,Boxed Z w.heap.size 54 v∧zHT Z base (fun q=>base<=q∧¬Sr q) v Wd (pre.map (sprF Wd))
theorem ColQ.keep{w A B:World}{base Wd:Nat}{S S':Nat->Prop}{pre:List FitT}(h:ColQ w base Wd S pre A)(hn:∀k,S' k->S k∨A.heap.size<=k)(hl:∀k,S' k->base<=k)(hb:w.heap.size<base)
 (hk:Keep (fun k=>(k<=w.heap.size∨base<=k)∧¬S' k) A B):ColQ w base Wd S' pre B:=by
 have hns:∀k,k<base->¬S' k:=fun k hk hs=>by have:=hl k hs;omega
 obtain⟨v,h1,h2⟩:=h.o
 refine⟨hk.below h.b h.b.size fun k hk=>⟨by omega,hns k (by omega)⟩,yAF h.z hk.size,v,(hk.block _ h1.lt ⟨by omega,hns _ (by omega)⟩).trans h1,h2.keep hk fun q hq hlt=>?_⟩
 have h4:¬S' q:=fun hs=>by
  rcases hn q hs with h|h
  ·exact hq.2 h
  ·omega
 exact⟨⟨.inr hq.1,h4⟩,hq.1,h4⟩
theorem appendPics_c(w:World)(qb:Nat)(a a2:Option Addr)(n cap n2 cap2:Nat)(M:Mask)(y:List Int)(hn:M.length=n)(hn2:y.length=n2)(hm:n<=maxLen)(hm2:n2<=maxLen)(h0:rdE M y=0)
 (hqb:qb<w.heap.size)(hcq:w.heap[qb]? =some (.cells #[.slice a n cap,.slice a2 n2 cap2] 86 (0,0)))(H:zAM w a M)(H2:zAH w a2 y):
 Calls Tryz.prog 176 #[.slice none 0 0,.func (.func 172) #[] #[.pointer (some ⟨qb,0,none⟩)]] w fun e w'=>
  Below w.heap.size w w'∧∃v base,e=.returned v∧w.heap.size<=base∧zHT w' base (fun q=>w.heap.size<=q) v (zAD M) (zBB M y):=by
 obtain⟨w1,hw1⟩:=exq (w.alloc (.cells #[.slice none 0 0] 54))
 have hs1:w1.heap.size=w.heap.size+1:=by rw[hw1,World.size_alloc]
 have hb1:Below w.heap.size w w1:=by rw[hw1];exact(Below.refl _ _).alloc (yAC _) _
 have hB:Boxed w1 w.heap.size 54 (.slice none 0 0):=by rw[hw1];exact World.alloc_heap_new _ _
 obtain⟨fp,hfp⟩:∃fp:Nat->Prop,fp=fun q=>q<w.heap.size:=⟨_,rfl⟩
 have HIT:=hid (lights_iter w1 fp qb a a2 n cap n2 cap2 M y hn hn2 hm hm2 h0 (by rw[hfp];intro q hq;show q<w1.heap.size;have:q<w.heap.size:=hq;omega) (by rw[hfp];exact hqb)
  ((hb1.block _ hqb).trans hcq)
  (fun X _ hX=>by
    have hX2:∀q,q<w.heap.size->X.heap[q]? =w.heap[q]? :=fun q hq=>(hX q (by rw[hfp];exact hq)).trans (hb1.block q hq)
    exact⟨zAM.blk H hX2,zAH.blk H2 hX2⟩))
 have HCNT:=hid (show(zCQ M y).length<=11264 by
  obtain⟨hok,_⟩:=zOV h0
  obtain⟨_,_,_,_,hc10⟩:=zCR hok
  have h3:=zDF M y (zAD M) (min (min 10 (zAD M)) M.length+1)
  have h4:2 ^ (zAD M)<=1024:=yCG (by omega) (show zAD M<=10 by omega)
  have h5:(min (min 10 (zAD M)) M.length+1)*2 ^ (zAD M)<=11*1024:=yAV (by omega) h4
  have h6:(zBZ M y 10).length=(zBT M y (zAD M) (min (min 10 (zAD M)) M.length+1)).length:=rfl
  have h7:(zCQ M y).length<=(zBZ M y 10).length:=yEK _ _
  omega)
 have HLP:=hid (show zBB M y=(zCQ M y).map (sprF (zAD M))from rfl)
 have HSL:=hid (fun(f:FitT)=>zLZ (zAD M) f)
 obtain⟨Wd,hWd⟩:=exq (zAD M)
 rw[<- hWd]at HIT HLP HSL⊢
 have HFP:=hid hfp
 have HW1:=hid hw1
 have HS1:=hid hs1
 have HB1:=hid hb1
 have HBX:=hid hB
 clear hn hn2 hm hm2 h0 hqb hcq H H2 hw1 hs1 hb1 hB hfp hWd
 refine callsIn_wide (n:=0) |>.1 ?_
 refine callsIn_of_wp_marks Tryz.func176 rfl trivial ?_ rfl
 simp only[Tryz.ntmps176,yED,yBB,yCD,Nat.reduceAdd,Nat.reduceSub,yDJ,yDI,yEF,yDR,yDL,yDG]
 gi_wp2
 rw[<- HW1.out]
 refine range_s (gf:=172) (lb:=#[.pointer (some ⟨qb,0,none⟩)]) (xs:=zCQ M y) (fp:=fp) (V:=LitV Wd) rfl (enters_of Tryz.func172 (by kernel_rfl) rfl)
  HIT.out (Below.refl _ _) (by rw[HFP.out];intro q h;have:=HS1.out;have:q<w.heap.size:=h;omega)
  (fun Sr pre Z=>ColQ w (w1.heap.size+2) Wd Sr pre Z)
  (fun _ _ _ _=>False) ?hI (fun _ _ _ _ _ _ h=>h.elim) ?hV ?h0
  (fun v a' Z=>∃f0 f1,a'={tmps:=#[.slice none 0 0,f0,.pointer (some ⟨w.heap.size,0,none⟩),undef,.slice none 0 0,v,f1,v,undef,undef,undef,undef,undef],defers:=[]}) ?hAx ?hassign ?hbody ?hdone ?hstop
 case hI=>
  intro Sr Sr' s A B hIA h1 h2 h3 h4 hk
  exact hIA.keep h2 h3 (by have:=HS1.out;omega) (hk.mono fun k hk=>by have:=HS1.out;exact⟨by omega,by omega,hk.2⟩)
 case hV=>
  intro Sr x v A B hv hk
  obtain⟨g,e1,e2,e3,e4⟩:=hv
  exact⟨g,e1,e2,e3,e4.keep (hk.block _ e4.lt ⟨by omega,by omega⟩)⟩
 case h0=>
  intro Z hk hZ
  have hs1:=HS1.out
  exact⟨hk.below HB1.out HB1.out.size fun k hk=>by omega,hZ,_,(hk.block _ HBX.out.lt (by show _<_;omega)).trans HBX.out,by rw[List.map_nil];exact zHT.nil _ _ _ _⟩
 case hAx=>
  rintro v a' A B ⟨f0,f1,e1⟩ hk
  exact⟨f0,f1,e1⟩
 case hassign=>
  rintro l Sr x v Z K hZ hv hK
  gi_wp2
  exact hK _ _ (Below.refl _ _) ⟨_,_,rfl⟩
 case hbody=>
  rintro l' Sr pre f v0 _ Z hpre hSr hI ⟨g0,rfl,hg1,hg2,hg3⟩ ⟨f0,f1,rfl⟩ hZ hDo hLo
  obtain⟨v,hvb,hro⟩:=hI.o
  have hcnt:pre.length+1<=11264:=by have h1:=HCNT.out;have h2:=hpre.length_le;simp at h2;omega
  have hbc:=hvb.cell
  obtain⟨xs,ho,hg,he⟩:=hro
  obtain⟨i0,hi0,hz0,hz1,hz2⟩:=info_parts info_rats
  rw[yAS]at ho
  have HNW:=hid (And.intro hg1 (And.intro hg2 hg3))
  have HI:=hid hI
  have HVB:=hid hvb
  have HO:=hid ho
  have HG:=hid hg
  have HE:=hid he
  have HSR:=hid hSr
  have M1:=hid (show pre.length+1<=maxLen by unfold maxLen;omega)
  have M2:=hid (show(pre.length+1)*24<=140737488355328 by omega)
  have M3:=hid (show w1.heap.size+2<=(Z.alloc (.cells #[.slice (some ⟨g0,0,none⟩) Wd Wd] 42)).heap.size by simp;omega)
  have HZ:=hid hZ
  clear hI hvb ho hg he hSr hpre hcnt hDo hLo hg1 hg2 hg3
  gi_wp2_with (gi_at_builtin;go_loud (refine wpListIn_append_own_at _ rfl _ _ 54 rfl (w1.heap.size+2) 42 i0 (.slice none 0 0) 1 24 Tryz.underlying54 hi0 hz0 hz1 hz2 rfl (by decide) v _ _ rfl (HO.out.alloc _) ⟨Z.heap.size,0,none⟩ 1 1 [.slice (some ⟨g0,0,none⟩) Wd Wd] rfl rfl (zBC Z _ _ _ rfl) (zBL _ _ _) M1.out M2.out M3.out ?_;refine Stop.of ?_))
  refine Stop.go ?_
  intro v5 w9 own5 g5 _ hat5
  obtain⟨a5,c5,rfl⟩:=zAC own5
  have hob:∀q,v.ownBlock=some q->w1.heap.size+2<=q∧¬Sr q:=fun q hq=>HG.out q hq
  have hs1:=HS1.out
  have hzz:=HZ.out
  have hZ1:Below Z.heap.size Z (Z.alloc (.cells #[.slice (some ⟨g0,0,none⟩) Wd Wd] 42)):=(Below.refl _ _).alloc (yAC _) _
  have hK9:Keep (fun q=>some q≠v.ownBlock) Z w9:=(Keep.of_below hZ1).trans (Keep.grown g5)
  have hS5:∀q,(Value.slice a5 (pre.length+1) c5).ownBlock=some q->w1.heap.size+2<=q∧¬Sr q:=fun q hq=>by
   rcases hat5 with e|e
   ·exact hob q (by rw[<- e];exact hq)
   ·rw[e]at hq
    cases hq
    exact⟨by omega,fun hs=>by have:=(HSR.out _ hs).2;omega⟩
  have hF9:zHT w9 (w1.heap.size+2) (fun q=>w1.heap.size+2<=q∧¬Sr q) (.slice a5 (pre.length+1) c5) Wd ((pre++[f]).map (sprF Wd)):=by
   rw[yBF,yFS,List.map_nil]
   exact zHT.snoc (by rw[yAS];exact HO.out) HE.out ⟨HNW.out.1,HNW.out.2.1⟩ (HSL.out f) HNW.out.2.2 hZ1 g5 (by rw[yAS];exact own5) hS5
  have hbx9:Boxed w9 w.heap.size 54 v:=(hK9.block _ HVB.out.lt (by intro e;have:=(hob _ e.symm).1;omega)).trans HVB.out
  have hc9:=hbx9.cell
  have hf9:=hbx9.frozen
  obtain⟨wA,hwA⟩:=exq (w9.setCell ⟨w.heap.size,0,none⟩ (.slice a5 (pre.length+1) c5))
  have kA:Keep (fun q=>q≠w.heap.size) w9 wA:=by rw[hwA];exact Keep.set w9 _ 0 _
  have nA:Boxed wA w.heap.size 54 (.slice a5 (pre.length+1) c5):=by rw[hwA];exact hbx9.set _
  have HA:=hid (And.intro nA (And.intro kA (And.intro hF9 hK9)))
  have HWA:=hid hwA
  have HOB:=hid hob
  clear own5 g5 hat5 hob hK9 hS5 hF9 hbx9 hwA kA nA hs1 hzz hZ1 hi0 hz0 hz1 hz2
  gi_wp2
  rw[<- HWA.out]
  obtain⟨nA,kA,hF9,hK9⟩:=HA.out
  have hs1:=HS1.out
  have kk:Keep (fun q=>q≠w.heap.size∧some q≠v.ownBlock) Z wA:=(hK9.mono fun q hq=>hq.2).trans (kA.mono fun q hq=>hq.1)
  refine⟨kk.size,fun q hq=>?_,?_⟩
  ·have hq1:q<Z.heap.size∧q≠w.heap.size∧some q≠v.ownBlock:=by
    have hzz:=HZ.out
    rcases hq with h|h|h|h
    ·rw[HFP.out]at h
     have h':q<w.heap.size:=h
     exact⟨by omega,by omega,fun e=>by have:=(HOB.out _ e.symm).1;omega⟩
    ·exact⟨by omega,by omega,fun e=>by have:=(HOB.out _ e.symm).1;omega⟩
    ·exact⟨by omega,by omega,fun e=>by have:=(HOB.out _ e.symm).1;omega⟩
    ·have:=HSR.out q h
     exact⟨this.2,by omega,fun e=>(HOB.out _ e.symm).2 h⟩
   exact kk.block q hq1.1 hq1.2
  ·refine⟨kk.below HI.out.b HI.out.b.size fun q hq=>⟨by omega,fun e=>by have:=(HOB.out _ e.symm).1;omega⟩,yAF HZ.out kk.size,_,nA,hF9.keep kA fun q hq _=>⟨by have:=hq.1;omega,hq⟩⟩
 case hdone=>
  intro Sr Z hZ hSr hI hmk
  obtain⟨v,hvb,hro⟩:=hI.o
  have hcv:=hvb.cell
  have HI:=hid hI
  have HRO:=hid hro
  have HMR:=hid hmk
  obtain⟨va,vc,ev⟩:=hro.slice
  rw[yAS]at ev
  subst ev
  clear hI hvb hro hmk hSr
  gi_wp2
  have hs1:=HS1.out
  refine zFF [w1.heap.size] Z (by simp) (fun h hh=>by rw[yCB.1 hh];exact HMR.out) fun w' hk=>?_
  refine⟨_,results_tmp rfl _ _ _,hk.below HI.out.b HI.out.b.size (fun k hk hh=>by rw[yCB.1 hh]at hk;omega),_,w1.heap.size+2,rfl,by omega,?_⟩
  rw[HLP.out]
  exact HRO.out.keep (S':=fun q=>w.heap.size<=q) hk (fun q hq _=>⟨fun hh=>by have:=hq.1;rw[yCB.1 hh]at this;omega,by have:=hq.1;omega⟩)
 case hstop=>
  intro Sr c pre Z hpre hSr hI hmk
  exact hI.elim
theorem zRP(w:World)(qb:Nat)(a a2:Option Addr)(n cap n2 cap2:Nat)(M:Mask)(y:List Int)(hn:M.length=n)(hn2:y.length=n2)(hm:n<=maxLen)(hm2:n2<=maxLen)(h0:rdE M y=0)
 (hqb:qb<w.heap.size)(hcq:w.heap[qb]? =some (.cells #[.slice a n cap,.slice a2 n2 cap2] 86 (0,0)))(H:zAM w a M)(H2:zAH w a2 y):
 Calls Tryz.prog 118 #[.func (.func 172) #[] #[.pointer (some ⟨qb,0,none⟩)]] w fun e w'=>
  Below w.heap.size w w'∧∃v base,e=.returned v∧w.heap.size<=base∧zHT w' base (fun q=>w.heap.size<=q) v (zAD M) (zBB M y):=by
 have HA:=hid (appendPics_c w qb a a2 n cap n2 cap2 M y hn hn2 hm hm2 h0 hqb hcq H H2)
 clear hn hn2 hm hm2 h0 hqb hcq H H2
 go_enter Tryz.func118,Tryz.ntmps118
 go_wp2_with (go_at_call 176;refine HA.out.mono ?_;rintro e w1 ⟨hb,v,base,rfl,hbs,hf⟩)
 go_ret
 exact⟨hb,v,base,rfl,hbs,hf⟩
end
section
open Go.RowKit
def F2(r:Rt):Prop:=F64 r.1∧F64 r.2
theorem span_f{l:List (List Rt)}{p:Nat}(h:∀k:Nat,F2 (zAB (l[k]?.getD []) p)):∀k:Nat,F2 (zAZ l p k).1∧F2 (zAZ l p k).2
 |0=>by unfold zAZ F2 F64;simp only[];omega
 |k+1=>by
  obtain⟨h1,h2⟩:=span_f h k
  show F2 (if _ then _ else _)∧F2 (if _ then _ else _)
  constructor
  ·split
   ·exact h k
   ·exact h1
  ·split
   ·exact h k
   ·exact h2
theorem zCZ{B:Nat}{a w:World}(h:Below B a w){b:Nat}(hb:B<=b)(v0 v1:Value):Below B a ((w.setCell ⟨b,0,none⟩ v0).setCell ⟨b,1,none⟩ v1):=zAE (zAE h hb 0 v0) hb 1 v1
theorem RatI.other{w:World}{g b:Nat}{r:Rt}(h:RatI w g r)(hn:g≠b)(x y:Value):RatI ((w.setCell ⟨b,0,none⟩ x).setCell ⟨b,1,none⟩ y) g r:=h.keep ((zBQ w b x y).block g h.lt hn)
theorem span_step{l:List (List Rt)}{p:Nat}(k:Nat):(zAZ l p (k+1)).1=(if k=0∨cmpF (zAB (l[k]?.getD []) p) (zAZ l p k).1<0 then zAB (l[k]?.getD []) p else(zAZ l p k).1)∧
 (zAZ l p (k+1)).2=(if k=0∨0<cmpF (zAB (l[k]?.getD []) p) (zAZ l p k).2 then zAB (l[k]?.getD []) p else(zAZ l p k).2):=⟨rfl,rfl⟩
theorem dspan_c(w:World)(a:Option Addr)(n cap P:Nat)(L:List (List Rt))(hn:L.length=n)(h0:0<n)(hm:n<=11264)(hP:P<=10)(H:zKD w a L)(hl:∀k (hk:k<L.length),P<L[k].length)(hf:∀k:Nat,F2 (zAB (L[k]?.getD []) P)):
 Calls Tryz.prog 102 #[.slice a n cap,.int .i64 P] w fun e w'=>e=.returned (.tuple #[ratV (zOS L P).1,ratV (zOS L P).2])∧Below w.heap.size w w':=by
 obtain⟨s,hs⟩:=exq (w.heap.size)
 obtain⟨wz,hwz⟩:=exq ((w.alloc (.cells #[.int .i64 0,.int .i64 0] 29)).alloc (.cells #[.int .i64 0,.int .i64 0] 29))
 have hbz:Below w.heap.size w wz:=by rw[hwz];exact((Below.refl _ _).alloc (yAC _) _).alloc (by simp) _
 have qa:RatI wz s (0,0):=by
  rw[hwz,hs]
  exact(RatI.made w (0,0)).keep (Below.heap_alloc _ _ _ (by simp))
 have qb:RatI wz (s+1) (0,0):=by
  have h:=RatI.made (w.alloc (.cells #[.int .i64 0,.int .i64 0] 29)) (0,0)
  rw[World.size_alloc]at h
  rw[hwz,hs];exact h
 have HSW:=hid (show w.heap.size<=s by omega)
 have HSF:=hid (span_f hf)
 have HF:=hid hf
 have HPI:=hid (fun(k:Nat) (hk:k<n)=>show ∃b off ra m c rb ro,a=some ⟨b,off,none⟩∧ra=some ⟨rb,ro,none⟩∧P<m∧m<=maxLen∧∀Y:World,Below w.heap.size w Y->Y.cell? ⟨b,off+k,none⟩=some (.slice ra m c)∧Y.cell? ⟨rb,ro+P*2,none⟩=some (.int .i64 (zAB (L[k]?.getD []) P).1)∧Y.cell? ⟨rb,ro+P*2+1,none⟩=some (.int .i64 (zAB (L[k]?.getD []) P).2)from by
  subst hn
  obtain⟨b,off,ra,m,c,e,hb,g0,g1,g2,g3⟩:=H k hk
  have hlk:=hl k hk
  have hx:zAB (L[k]?.getD []) P=L[k][P]'hlk:=by
   rw[yAA hk];show(L[k][P]?).getD (0,1)=_;rw[yAA hlk];rfl
  obtain⟨rb,ro,e2,hrb,y0,y1⟩:=g3 P hlk
  refine⟨b,off,ra,m,c,rb,ro,e,e2,by omega,g2,fun Y hY=>?_⟩
  rw[hx]
  exact⟨(hY.cell (p:=⟨b,_,none⟩) hb).trans g0,(hY.cell (p:=⟨rb,_,none⟩) hrb).trans y0,(hY.cell (p:=⟨rb,_,none⟩) hrb).trans y1⟩)
 have HN0:=hid h0
 have HNM:=hid hm
 have HLN:=hid (show zOS L P=zAZ L P n by unfold zOS;rw[hn])
 have HPP:=hid hP
 have HBZ:=hid hbz
 have QA:=hid qa
 have QB:=hid qb
 clear hn h0 hm hP H hl hf hbz qa qb
 go_enter Tryz.func102,Tryz.ntmps102
 go_wp2_with fail
 rw[<- hs,<- hwz]
 clear hs hwz
 go_loopw [10] (fun i wr=>∃k:Nat,k<=n∧i=.int .i64 k∧RatI wr s (zAZ L P k).1∧RatI wr (s+1) (zAZ L P k).2∧Below w.heap.size w wr) (fun i _=>n-(intOf i).toNat)
 case atStart=>exact⟨0,yAK _,rfl,QA.out,QB.out,HBZ.out⟩
 case round=>
  obtain⟨k,hk,rfl,rl,rh,hbk⟩:=hrel
  by_cases hlt:k<n
  ·obtain⟨b_,o_,ra,m,mc,rb,ro,ea,rfl,hPm,hmm,hxk⟩:=HPI.out k hlt
   subst ea
   obtain⟨x,hx⟩:=exq (zAB (L[k]?.getD []) P)
   rw[<- hx]at hxk
   have HXK:=hid hxk
   obtain⟨h0,_,_⟩:=hxk wr hbk
   obtain⟨lo,hlo⟩:=exq ((zAZ L P k).1)
   obtain⟨hi,hhi⟩:=exq ((zAZ L P k).2)
   have HFX:=hid (show F2 x by rw[hx];exact HF.out k)
   have HFL:=hid (show F2 lo by rw[hlo];exact(HSF.out _).1)
   have HFH:=hid (show F2 hi by rw[hhi];exact(HSF.out _).2)
   obtain⟨cl,hcl⟩:=exq (cmpF x lo)
   obtain⟨ch,hch⟩:=exq (cmpF x hi)
   have HCL:=hid (fun(Z:World)=>show Calls Tryz.prog 136 #[.agg #[.int .i64 x.1,.int .i64 x.2],.agg #[.int .i64 lo.1,.int .i64 lo.2]] Z fun e w'=>e=.returned (.int .i64 cl)∧Below Z.heap.size Z w' from by
    rw[hcl];exact zKS Z _ _ _ _ HFX.out.1 HFX.out.2 HFL.out.1 HFL.out.2)
   have HCH:=hid (fun(Z:World)=>show Calls Tryz.prog 136 #[.agg #[.int .i64 x.1,.int .i64 x.2],.agg #[.int .i64 hi.1,.int .i64 hi.2]] Z fun e w'=>e=.returned (.int .i64 ch)∧Below Z.heap.size Z w' from by
    rw[hch];exact zKS Z _ _ _ _ HFX.out.1 HFX.out.2 HFH.out.1 HFH.out.2)
   have HBK:=hid hbk
   have RL:=hid (show RatI wr s lo by rw[hlo];exact rl)
   have RH:=hid (show RatI wr (s+1) hi by rw[hhi];exact rh)
   have HNX0:=hid (span_step (l:=L) (p:=P) k)
   rw[<- hx,<- hlo,<- hhi,<- hcl,<- hch]at HNX0
   have hk9:k<=11264:=by have:=HNM.out;omega
   have hP9:P<=10:=HPP.out
   have i0:(0:Int)<=(k:Int):=by omega
   have i1:(k:Int)<(n:Int):=by omega
   have i2:(0:Int)<=(P:Int):=by omega
   have i3:(P:Int)<(m:Int):=by omega
   clear hxk hx hlo hhi hcl hch rl rh hbk
   by_cases hk0:k=0
   ·subst hk0
    rw[yDS]at h0
    have HNX:=hid (show(zAZ L P (0+1)).1=x∧(zAZ L P (0+1)).2=x from by
     obtain⟨g1,g2⟩:=HNX0.out
     rw[g1,g2]
     simp[HN0.out])
    have HSA:=hid (fun(Z:World) (hZ:Below wr.heap.size wr Z)=>show Z.cell? ⟨rb,ro+P*2,none⟩=some (.int .i64 x.1)∧Z.cell? ⟨rb,ro+P*2+1,none⟩=some (.int .i64 x.2)∧Z.cell? ⟨s,0,none⟩=some (.int .i64 lo.1)∧Z.cell? ⟨s,1,none⟩=some (.int .i64 lo.2)∧Z.cell? ⟨s+1,0,none⟩=some (.int .i64 hi.1)∧Z.cell? ⟨s+1,1,none⟩=some (.int .i64 hi.2)from by
     obtain⟨a0,a1,_⟩:=(RL.out.keep (hZ.block _ RL.out.lt)).cells
     obtain⟨b0,b1,_⟩:=(RH.out.keep (hZ.block _ RH.out.lt)).cells
     obtain⟨_,c0,c1⟩:=HXK.out Z (zAA HBK.out hZ)
     exact⟨c0,c1,a0,a1,b0,b1⟩)
    go_upto_region 4 with fail
    refine zAG (fun j' Z=>wAll j'=true->Z.cell? ⟨rb,ro+P*2,none⟩=some (.int .i64 x.1)∧Z.cell? ⟨rb,ro+P*2+1,none⟩=some (.int .i64 x.2)∧Z.cell? ⟨s,0,none⟩=some (.int .i64 lo.1)∧Z.cell? ⟨s,1,none⟩=some (.int .i64 lo.2)∧Z.cell? ⟨s+1,0,none⟩=some (.int .i64 hi.1)∧Z.cell? ⟨s+1,1,none⟩=some (.int .i64 hi.2)) (by kernel_rfl) ?_
    have hbd:Below wr.heap.size wr wr.drew:=(Below.refl _ _).drew
    generalize wr.drew=wdA at hbd⊢
    have HDA:=hid hbd
    clear hbd
    refine AnyT.nx (i:=0) rfl ?_
    go_wp2
    refine⟨fun _=>(HSA.out _ HDA.out),?_⟩
    refine AnyT.nx (i:=1) rfl ?_
    go_wp2
    refine⟨fun _=>(HSA.out _ HDA.out),?_⟩
    refine AnyT.nx (i:=2) rfl ?_
    go_wp2
    refine⟨fun _=>(HSA.out _ HDA.out),?_⟩
    refine AnyT.tN (i:=3) rfl rfl (HSA.out _ HDA.out) ?_;go_frame
    refine AnyT.tN (i:=4) rfl rfl (HSA.out _ HDA.out) ?_;go_frame
    refine AnyT.tN (i:=5) rfl rfl (HSA.out _ HDA.out) ?_;go_frame
    refine AnyT.tN (i:=6) rfl rfl (HSA.out _ HDA.out) ?_;go_frame
    refine AnyT.tN (i:=7) rfl rfl (HSA.out _ HDA.out) ?_;go_frame
    refine AnyT.tN (i:=8) rfl rfl (HSA.out _ HDA.out) ?_;go_frame
    refine AnyT.tN (i:=9) rfl rfl (HSA.out _ HDA.out) ?_;go_frame
    refine AnyT.nx (i:=10) rfl ?_
    go_wp2
    refine⟨fun _=>(HSA.out _ HDA.out),?_⟩
    refine AnyT.done (by kernel_rfl) ?_ _
    have LB:=hid (RL.out.keep (HDA.out.block _ RL.out.lt))
    have RB:=hid (RH.out.keep (HDA.out.block _ RH.out.lt))
    have BB:=hid (show Below w.heap.size w wdA from zAA HBK.out HDA.out)
    obtain⟨d0,d1,d2,d3,d4⟩:=LB.out.cells
    obtain⟨_,c0,c1⟩:=HXK.out _ BB.out
    go_upto_region 6 with fail
    have LC:=hid (RatI.set (p:=x) LB.out)
    have RC:=hid (RB.out.other (b:=s) (by omega) (.int .i64 x.1) (.int .i64 x.2))
    have BC:=hid (zCZ BB.out HSW.out (.int .i64 x.1) (.int .i64 x.2))
    obtain⟨wb,hwb⟩:=exq ((wdA.setCell ⟨s,0,none⟩ (.int .i64 x.1)).setCell ⟨s,1,none⟩ (.int .i64 x.2))
    rw[<- hwb]at LC RC BC⊢
    clear hwb d0 d1 d2 d3 d4 c0 c1 LB RB BB
    have HSB:=hid (fun(Z:World) (hZ:Below wb.heap.size wb Z)=>show Z.cell? ⟨rb,ro+P*2,none⟩=some (.int .i64 x.1)∧Z.cell? ⟨rb,ro+P*2+1,none⟩=some (.int .i64 x.2)∧Z.cell? ⟨s,0,none⟩=some (.int .i64 x.1)∧Z.cell? ⟨s,1,none⟩=some (.int .i64 x.2)∧Z.cell? ⟨s+1,0,none⟩=some (.int .i64 hi.1)∧Z.cell? ⟨s+1,1,none⟩=some (.int .i64 hi.2)from by
     obtain⟨a0,a1,_⟩:=(LC.out.keep (hZ.block _ LC.out.lt)).cells
     obtain⟨b0,b1,_⟩:=(RC.out.keep (hZ.block _ RC.out.lt)).cells
     obtain⟨_,c0,c1⟩:=HXK.out Z (zAA BC.out hZ)
     exact⟨c0,c1,a0,a1,b0,b1⟩)
    refine zAG (fun j' Z=>wAll j'=true->Z.cell? ⟨rb,ro+P*2,none⟩=some (.int .i64 x.1)∧Z.cell? ⟨rb,ro+P*2+1,none⟩=some (.int .i64 x.2)∧Z.cell? ⟨s,0,none⟩=some (.int .i64 x.1)∧Z.cell? ⟨s,1,none⟩=some (.int .i64 x.2)∧Z.cell? ⟨s+1,0,none⟩=some (.int .i64 hi.1)∧Z.cell? ⟨s+1,1,none⟩=some (.int .i64 hi.2)) (by kernel_rfl) ?_
    have hbd:Below wb.heap.size wb wb.drew:=(Below.refl _ _).drew
    generalize wb.drew=wdB at hbd⊢
    have HDB:=hid hbd
    clear hbd
    refine AnyT.nx (i:=0) rfl ?_
    go_wp2
    refine⟨fun _=>(HSB.out _ HDB.out),?_⟩
    refine AnyT.nx (i:=1) rfl ?_
    go_wp2
    refine⟨fun _=>(HSB.out _ HDB.out),?_⟩
    refine AnyT.nx (i:=2) rfl ?_
    go_wp2
    refine⟨fun _=>(HSB.out _ HDB.out),?_⟩
    refine AnyT.tN (i:=3) rfl rfl (HSB.out _ HDB.out) ?_;go_frame
    refine AnyT.tN (i:=4) rfl rfl (HSB.out _ HDB.out) ?_;go_frame
    refine AnyT.tN (i:=5) rfl rfl (HSB.out _ HDB.out) ?_;go_frame
    refine AnyT.tN (i:=6) rfl rfl (HSB.out _ HDB.out) ?_;go_frame
    refine AnyT.tN (i:=7) rfl rfl (HSB.out _ HDB.out) ?_;go_frame
    refine AnyT.tN (i:=8) rfl rfl (HSB.out _ HDB.out) ?_;go_frame
    refine AnyT.tN (i:=9) rfl rfl (HSB.out _ HDB.out) ?_;go_frame
    refine AnyT.nx (i:=10) rfl ?_
    go_wp2
    refine⟨fun _=>(HSB.out _ HDB.out),?_⟩
    refine AnyT.done (by kernel_rfl) ?_ _
    have LD:=hid (LC.out.keep (HDB.out.block _ LC.out.lt))
    have RD:=hid (RC.out.keep (HDB.out.block _ RC.out.lt))
    have BD:=hid (show Below w.heap.size w wdB from zAA BC.out HDB.out)
    obtain⟨d0,d1,d2,d3,d4⟩:=RD.out.cells
    obtain⟨_,c0,c1⟩:=HXK.out _ BD.out
    go_wp2
    have RE:=hid (RatI.set (p:=x) RD.out)
    have LE:=hid (LD.out.other (b:=s+1) (by omega) (.int .i64 x.1) (.int .i64 x.2))
    have BE:=hid (zCZ BD.out (show w.heap.size<=s+1 by have:=HSW.out;omega) (.int .i64 x.1) (.int .i64 x.2))
    exact⟨⟨0+1,by omega,by first|rfl|go_num|simp,by rw[HNX.out.1];exact LE.out,by rw[HNX.out.2];exact RE.out,BE.out⟩,by simp[intOf];try omega⟩
   ·have hkz:¬(k:Int)=0:=by omega
    have hke:((k:Int)==0)=false:=by simpa using hk0
    by_cases hcl:cl<0
    all_goals
     have HSA:=hid (fun(Z:World) (hZ:Below wr.heap.size wr Z)=>show Z.cell? ⟨rb,ro+P*2,none⟩=some (.int .i64 x.1)∧Z.cell? ⟨rb,ro+P*2+1,none⟩=some (.int .i64 x.2)∧Z.cell? ⟨s,0,none⟩=some (.int .i64 lo.1)∧Z.cell? ⟨s,1,none⟩=some (.int .i64 lo.2)∧Z.cell? ⟨s+1,0,none⟩=some (.int .i64 hi.1)∧Z.cell? ⟨s+1,1,none⟩=some (.int .i64 hi.2)from by
      obtain⟨a0,a1,_⟩:=(RL.out.keep (hZ.block _ RL.out.lt)).cells
      obtain⟨b0,b1,_⟩:=(RH.out.keep (hZ.block _ RH.out.lt)).cells
      obtain⟨_,c0,c1⟩:=HXK.out Z (zAA HBK.out hZ)
      exact⟨c0,c1,a0,a1,b0,b1⟩)
     go_upto_region 4 with fail
     refine zAG (fun j' Z=>wAll j'=true->Z.cell? ⟨rb,ro+P*2,none⟩=some (.int .i64 x.1)∧Z.cell? ⟨rb,ro+P*2+1,none⟩=some (.int .i64 x.2)∧Z.cell? ⟨s,0,none⟩=some (.int .i64 lo.1)∧Z.cell? ⟨s,1,none⟩=some (.int .i64 lo.2)∧Z.cell? ⟨s+1,0,none⟩=some (.int .i64 hi.1)∧Z.cell? ⟨s+1,1,none⟩=some (.int .i64 hi.2)) (by kernel_rfl) ?_
     have hbd:Below wr.heap.size wr wr.drew:=(Below.refl _ _).drew
     generalize wr.drew=wdA at hbd⊢
     have HDA:=hid hbd
     clear hbd
     refine AnyT.nx (i:=0) rfl ?_
     go_wp2
     refine⟨fun _=>(HSA.out _ HDA.out),?_⟩
     refine AnyT.nx (i:=1) rfl ?_
     go_wp2
     refine⟨fun _=>(HSA.out _ HDA.out),?_⟩
     refine AnyT.nx (i:=2) rfl ?_
     go_wp2
     refine⟨fun _=>(HSA.out _ HDA.out),?_⟩
     refine AnyT.tD (i:=3) (v:=.slice (some ⟨rb,ro,none⟩) m mc) rfl rfl (by rintro w' ⟨q0,q1,q2,q3,q4,q5⟩;go_simp) (HSA.out _ HDA.out) ?_;go_frame
     refine AnyT.tD (i:=4) (v:=.int .i64 P) rfl rfl (by rintro w' ⟨q0,q1,q2,q3,q4,q5⟩;go_simp) (HSA.out _ HDA.out) ?_;go_frame
     refine AnyT.tD (i:=5) (v:=.pointer (some ⟨rb,ro+P*2,none⟩)) rfl rfl (by rintro w' ⟨q0,q1,q2,q3,q4,q5⟩;go_simp) (HSA.out _ HDA.out) ?_;go_frame
     refine AnyT.tD (i:=6) (v:=.agg #[.int .i64 x.1,.int .i64 x.2]) rfl rfl (by rintro w' ⟨q0,q1,q2,q3,q4,q5⟩;go_simp) (HSA.out _ HDA.out) ?_;go_frame
     refine AnyT.tD (i:=7) (v:=.agg #[.int .i64 lo.1,.int .i64 lo.2]) rfl rfl (by rintro w' ⟨q0,q1,q2,q3,q4,q5⟩;go_simp) (HSA.out _ HDA.out) ?_;go_frame
     refine AnyT.nx (i:=8) rfl ?_
     go_wp2_with (go_at_call 136;refine(HCL.out _).mono ?_;rintro e wcA ⟨rfl,hbc⟩;refine Stop.of ?_)
     refine Stop.go ?_
     have HEA:=hid (zAA HDA.out hbc)
     clear hbc
     go_wp2
     refine⟨fun _=>HSA.out _ HEA.out,?_⟩
     refine AnyT.nx (i:=9) rfl ?_
     go_wp2
     refine⟨fun _=>(HSA.out _ HEA.out),?_⟩
     refine AnyT.nx (i:=10) rfl ?_
     go_wp2
     refine⟨fun _=>(HSA.out _ HEA.out),?_⟩
     refine AnyT.done (by kernel_rfl) ?_ _
     have LB:=hid (RL.out.keep (HEA.out.block _ RL.out.lt))
     have RB:=hid (RH.out.keep (HEA.out.block _ RH.out.lt))
     have BB:=hid (show Below w.heap.size w wcA from zAA HBK.out HEA.out)
     first
      | (have hq:cl<0:=hcl
         obtain⟨d0,d1,d2,d3,d4⟩:=LB.out.cells
         obtain⟨_,c0,c1⟩:=HXK.out _ BB.out
         go_upto_region 6 with fail
         have LC:=hid (RatI.set (p:=x) LB.out)
         have RC:=hid (RB.out.other (b:=s) (by omega) (.int .i64 x.1) (.int .i64 x.2))
         have BC:=hid (zCZ BB.out HSW.out (.int .i64 x.1) (.int .i64 x.2))
         obtain⟨wb,hwb⟩:=exq ((wcA.setCell ⟨s,0,none⟩ (.int .i64 x.1)).setCell ⟨s,1,none⟩ (.int .i64 x.2))
         rw[<- hwb]at LC RC BC⊢
         obtain⟨l2,hl2⟩:=exq (x)
         have LC:=hid (show RatI wb s l2 by rw[hl2];exact LC.out)
         have HN1:=hid (show(zAZ L P (k+1)).1=l2 from by rw[HNX0.out.1,hl2];simp[hk0,hq])
         clear hwb d0 d1 d2 d3 d4 c0 c1 LB RB BB hq hl2)
      | (have hq:¬cl<0:=by omega
         go_upto_region 6 with fail
         have LC:=hid LB.out
         have RC:=hid RB.out
         have BC:=hid BB.out
         obtain⟨wb,hwb⟩:=exq (wcA)
         subst hwb
         obtain⟨l2,hl2⟩:=exq (lo)
         have LC:=hid (show RatI wb s l2 by rw[hl2];exact LC.out)
         have HN1:=hid (show(zAZ L P (k+1)).1=l2 from by rw[HNX0.out.1,hl2];simp[hk0,hq])
         clear LB RB BB hq hl2)
     have HSB:=hid (fun(Z:World) (hZ:Below wb.heap.size wb Z)=>show Z.cell? ⟨rb,ro+P*2,none⟩=some (.int .i64 x.1)∧Z.cell? ⟨rb,ro+P*2+1,none⟩=some (.int .i64 x.2)∧Z.cell? ⟨s,0,none⟩=some (.int .i64 l2.1)∧Z.cell? ⟨s,1,none⟩=some (.int .i64 l2.2)∧Z.cell? ⟨s+1,0,none⟩=some (.int .i64 hi.1)∧Z.cell? ⟨s+1,1,none⟩=some (.int .i64 hi.2)from by
      obtain⟨a0,a1,_⟩:=(LC.out.keep (hZ.block _ LC.out.lt)).cells
      obtain⟨b0,b1,_⟩:=(RC.out.keep (hZ.block _ RC.out.lt)).cells
      obtain⟨_,c0,c1⟩:=HXK.out Z (zAA BC.out hZ)
      exact⟨c0,c1,a0,a1,b0,b1⟩)
     by_cases hch:0<ch
     all_goals
      refine zAG (fun j' Z=>wAll j'=true->Z.cell? ⟨rb,ro+P*2,none⟩=some (.int .i64 x.1)∧Z.cell? ⟨rb,ro+P*2+1,none⟩=some (.int .i64 x.2)∧Z.cell? ⟨s,0,none⟩=some (.int .i64 l2.1)∧Z.cell? ⟨s,1,none⟩=some (.int .i64 l2.2)∧Z.cell? ⟨s+1,0,none⟩=some (.int .i64 hi.1)∧Z.cell? ⟨s+1,1,none⟩=some (.int .i64 hi.2)) (by kernel_rfl) ?_
      have hbd:Below wb.heap.size wb wb.drew:=(Below.refl _ _).drew
      generalize wb.drew=wdB at hbd⊢
      have HDB:=hid hbd
      clear hbd
      refine AnyT.nx (i:=0) rfl ?_
      go_wp2
      refine⟨fun _=>(HSB.out _ HDB.out),?_⟩
      refine AnyT.nx (i:=1) rfl ?_
      go_wp2
      refine⟨fun _=>(HSB.out _ HDB.out),?_⟩
      refine AnyT.nx (i:=2) rfl ?_
      go_wp2
      refine⟨fun _=>(HSB.out _ HDB.out),?_⟩
      refine AnyT.tD (i:=3) (v:=.slice (some ⟨rb,ro,none⟩) m mc) rfl rfl (by rintro w' ⟨q0,q1,q2,q3,q4,q5⟩;go_simp) (HSB.out _ HDB.out) ?_;go_frame
      refine AnyT.tD (i:=4) (v:=.int .i64 P) rfl rfl (by rintro w' ⟨q0,q1,q2,q3,q4,q5⟩;go_simp) (HSB.out _ HDB.out) ?_;go_frame
      refine AnyT.tD (i:=5) (v:=.pointer (some ⟨rb,ro+P*2,none⟩)) rfl rfl (by rintro w' ⟨q0,q1,q2,q3,q4,q5⟩;go_simp) (HSB.out _ HDB.out) ?_;go_frame
      refine AnyT.tD (i:=6) (v:=.agg #[.int .i64 x.1,.int .i64 x.2]) rfl rfl (by rintro w' ⟨q0,q1,q2,q3,q4,q5⟩;go_simp) (HSB.out _ HDB.out) ?_;go_frame
      refine AnyT.tD (i:=7) (v:=.agg #[.int .i64 hi.1,.int .i64 hi.2]) rfl rfl (by rintro w' ⟨q0,q1,q2,q3,q4,q5⟩;go_simp) (HSB.out _ HDB.out) ?_;go_frame
      refine AnyT.nx (i:=8) rfl ?_
      go_wp2_with (go_at_call 136;refine(HCH.out _).mono ?_;rintro e wcB ⟨rfl,hbc⟩;refine Stop.of ?_)
      refine Stop.go ?_
      have HEB:=hid (zAA HDB.out hbc)
      clear hbc
      go_wp2
      refine⟨fun _=>HSB.out _ HEB.out,?_⟩
      refine AnyT.nx (i:=9) rfl ?_
      go_wp2
      refine⟨fun _=>(HSB.out _ HEB.out),?_⟩
      refine AnyT.nx (i:=10) rfl ?_
      go_wp2
      refine⟨fun _=>(HSB.out _ HEB.out),?_⟩
      refine AnyT.done (by kernel_rfl) ?_ _
      have LD:=hid (LC.out.keep (HEB.out.block _ LC.out.lt))
      have RD:=hid (RC.out.keep (HEB.out.block _ RC.out.lt))
      have BD:=hid (show Below w.heap.size w wcB from zAA BC.out HEB.out)
      first
       | (have hq:0<ch:=hch
          have HN2:=hid (show(zAZ L P (k+1)).2=x from by rw[HNX0.out.2];simp[hk0,hq])
          clear hq
          obtain⟨d0,d1,d2,d3,d4⟩:=RD.out.cells
          obtain⟨_,c0,c1⟩:=HXK.out _ BD.out
          go_wp2
          have RE:=hid (RatI.set (p:=x) RD.out)
          have LE:=hid (LD.out.other (b:=s+1) (by omega) (.int .i64 x.1) (.int .i64 x.2))
          have BE:=hid (zCZ BD.out (show w.heap.size<=s+1 by have:=HSW.out;omega) (.int .i64 x.1) (.int .i64 x.2))
          exact⟨⟨k+1,by omega,by first|rfl|go_num|simp,by rw[HN1.out];exact LE.out,by rw[HN2.out];exact RE.out,BE.out⟩,by simp[intOf];try omega⟩)
       | (have hq:¬0<ch:=by omega
          have HN2:=hid (show(zAZ L P (k+1)).2=hi from by rw[HNX0.out.2];simp[hk0,hq])
          clear hq
          go_wp2
          exact⟨⟨k+1,by omega,by first|rfl|go_num|simp,by rw[HN1.out];exact LD.out,by rw[HN2.out];exact RD.out,BD.out⟩,by simp[intOf];try omega⟩)
  ·obtain rfl:k=n:=by omega
   have HBK:=hid hbk
   have RL:=hid rl
   have RH:=hid rh
   obtain⟨lo,hlo⟩:=exq ((zAZ L P k).1)
   obtain⟨hi,hhi⟩:=exq ((zAZ L P k).2)
   have HRET:=hid (show ratV (zOS L P).1=ratV lo∧ratV (zOS L P).2=ratV hi by rw[HLN.out,hlo,hhi];exact⟨rfl,rfl⟩)
   rw[<- hlo]at RL
   rw[<- hhi]at RH
   have i1:¬((k:Int)<(k:Int)):=by omega
   clear hbk rl rh hlo hhi
   go_wp2
   refine zAG (fun j X=>wAll j=true->X.cell? ⟨s,0,none⟩=some (.int .i64 lo.1)∧X.cell? ⟨s,1,none⟩=some (.int .i64 lo.2)∧X.cell? ⟨s+1,0,none⟩=some (.int .i64 hi.1)∧X.cell? ⟨s+1,1,none⟩=some (.int .i64 hi.2)) (by kernel_rfl) ?_
   have hbd:Below wr.heap.size wr wr.drew:=(Below.refl _ _).drew
   have G2:=hid (RL.out.keep (hbd.block _ RL.out.lt))
   have G3:=hid (RH.out.keep (hbd.block _ RH.out.lt))
   have KD:=hid (HBK.out.drew)
   generalize wr.drew=wd at G2 G3 KD⊢
   obtain⟨a0,a1,a2,a3,a4⟩:=G2.out.cells
   obtain⟨b0,b1,b2,b3,b4⟩:=G3.out.cells
   have hS:wd.cell? ⟨s,0,none⟩=some (.int .i64 lo.1)∧wd.cell? ⟨s,1,none⟩=some (.int .i64 lo.2)∧wd.cell? ⟨s+1,0,none⟩=some (.int .i64 hi.1)∧wd.cell? ⟨s+1,1,none⟩=some (.int .i64 hi.2):=⟨a0,a1,b0,b1⟩
   refine AnyT.tD (i:=0) (v:=.agg #[.int .i64 lo.1,.int .i64 lo.2]) rfl rfl (by rintro w' ⟨x1,x2,x3,x4⟩;go_simp) hS ?_;go_frame
   refine AnyT.tD (i:=1) (v:=.agg #[.int .i64 hi.1,.int .i64 hi.2]) rfl rfl (by rintro w' ⟨x1,x2,x3,x4⟩;go_simp) hS ?_;go_frame
   have M2:=hid (RatI.set (p:=lo) G2.out)
   have M3:=hid (G3.out.other (b:=s) (by omega) (.int .i64 lo.1) (.int .i64 lo.2))
   refine AnyT.nx (i:=2) rfl ?_
   go_wp2
   clear a0 a1 a2 a3 a4 b0 b1 b2 b3 b4 hS
   obtain⟨a0,a1,a2,a3,a4⟩:=M2.out.cells
   obtain⟨b0,b1,b2,b3,b4⟩:=M3.out.cells
   refine⟨fun _=>⟨a0,a1,b0,b1⟩,?_⟩
   have N3:=hid (RatI.set (p:=hi) M3.out)
   have N2:=hid (M2.out.other (b:=s+1) (by omega) (.int .i64 hi.1) (.int .i64 hi.2))
   have KN:=hid (zCZ (zCZ KD.out HSW.out (.int .i64 lo.1) (.int .i64 lo.2)) (show w.heap.size<=s+1 by have:=HSW.out;omega) (.int .i64 hi.1) (.int .i64 hi.2))
   refine AnyT.nx (i:=3) rfl ?_
   go_wp2
   clear a0 a1 a2 a3 a4 b0 b1 b2 b3 b4
   obtain⟨a0,a1,a2,a3,a4⟩:=N2.out.cells
   obtain⟨b0,b1,b2,b3,b4⟩:=N3.out.cells
   refine⟨fun _=>⟨a0,a1,b0,b1⟩,?_⟩
   refine AnyT.done (by kernel_rfl) ?_ _
   go_wp2
   change bodyPost _ _ _ _ _ ((((wd.setCell ⟨s,0,none⟩ (.int .i64 lo.1)).setCell ⟨s,1,none⟩ (.int .i64 lo.2)).setCell ⟨s+1,0,none⟩ (.int .i64 hi.1)).setCell ⟨s+1,1,none⟩ (.int .i64 hi.2))
   generalize (((wd.setCell ⟨s,0,none⟩ (.int .i64 lo.1)).setCell ⟨s,1,none⟩ (.int .i64 lo.2)).setCell ⟨s+1,0,none⟩ (.int .i64 hi.1)).setCell ⟨s+1,1,none⟩ (.int .i64 hi.2)=WF at*
   refine bodyPost_ret (v:=.tuple #[.agg #[.int .i64 lo.1,.int .i64 lo.2],.agg #[.int .i64 hi.1,.int .i64 hi.2]]) ?_ rfl ⟨by rw[HRET.out.1,HRET.out.2];rfl,KN.out⟩
   simp[results,Tryz.results102,go_sem,a0,a1,a2,a3,a4,b0,b1,b2,b3,b4]
end
section
open Go.RowKit
theorem r4spread_c(w:World)(a:Option Addr)(n cap:Nat)(M:Mask)(W:Nat)(us ur:Value)(f:FitT)(hn:M.length=n)(h0:0<n)(hW:W=zAD M)(hW10:W<=10)(H:zAM w a M)(hd:HdF w us ur f)(hs:zCI W f.1)(hl:f.2.length=f.1.length)(hl10:f.1.length<=10):
 Calls Tryz.prog 100 #[.slice a n cap,.agg #[us,ur]] w fun e w'=>∃g,e=.returned (.slice (some ⟨g,0,none⟩) W W)∧w.heap.size<=g∧zBO w' g (sprF W f)∧Below w.heap.size w w':=by
 obtain⟨pa,pn,pc,va,vn,vc,rfl,rfl,k1,k2,k3,k4,k5,k6⟩:=hd
 obtain⟨b0,off0,ra0,rc0,rfl,hb0,hc0⟩:=zCT H (by omega)
 rw[<- hW]at hc0
 obtain⟨fb,hfb⟩:=exq (w.heap.size)
 obtain⟨wz,hwz⟩:=exq (w.alloc (.cells #[.slice pa pn pc,.slice va vn vc] 73))
 have hbz:Below w.heap.size w wz:=by rw[hwz];exact(Below.refl _ _).alloc (yAC _) _
 have hfz:wz.heap[fb]? =some (.cells #[.slice pa pn pc,.slice va vn vc] 73 (0,0)):=by rw[hwz,hfb];exact World.alloc_heap_new _ _
 have HWZ:=hid hwz
 have HBZ:=hid hbz
 have HS:=hid (fun(Z:World) (hZ:Below wz.heap.size wz Z)=>show Z.cell? ⟨fb,0,none⟩=some (.slice pa pn pc)∧Z.cell? ⟨fb,1,none⟩=some (.slice va vn vc)∧Z.cell? ⟨b0,off0,none⟩=some (.slice ra0 W rc0)from by
  have h2:=(hZ.block fb (yAB.1 hfz).1).trans hfz
  exact⟨by simp[World.cell?,h2],by simp[World.cell?,h2],((zAA hbz hZ).cell (p:=⟨b0,off0,none⟩) hb0).trans hc0⟩)
 have HP:=hid (fun(Z:World) (hZ:Below wz.heap.size wz Z)=>And.intro (k3.below (zAA hbz hZ)) (k6.below (zAA hbz hZ)))
 have HPN:=hid k1
 have HVN:=hid k4
 have HLL:=hid hl
 have HSO:=hid hs
 have hpl:pn<=10:=by omega
 have hvp:vn=pn:=by omega
 subst hvp
 obtain⟨c0,c1,c2⟩:=HS.out wz (Below.refl _ _)
 have i0:(0:Int)<(n:Int):=by omega
 have hmk:=zHH W (by omega)
 obtain⟨w7,hw7⟩:=exq (wz.alloc (.cells (madeCells #[.int .i64 0,.int .i64 0] (W*2)) 29))
 obtain⟨g,hg⟩:=exq (wz.heap.size)
 have HRB0:=hid (show zBO w7 g (List.replicate W (0,0))by rw[hw7,hg];exact zRF wz W)
 have HB7:=hid (show Below g wz w7 by rw[hw7,hg];exact(Below.refl _ _).alloc (yAC _) _)
 have HFS:=hid (show fb<wz.heap.size∧w.heap.size<=g from⟨(yAB.1 hfz).1,by rw[hg];exact hbz.size⟩)
 clear hn h0 hW H hs hl hl10 k1 k2 k3 k4 k5 k6 hb0 hc0 hwz hbz hfz
 go_enter Tryz.func100,Tryz.ntmps100
 go_upto_region 1 with fail
 rw[<- hfb,<- HWZ.out]
 clear hfb
 go_wp2_with fail
 rw[<- hg,<- hw7]
 have HG:=hid hg
 clear hg hw7 hmk
 go_wp2
 go_loopw [16] (fun i wr=>∃t:Nat,t<=W∧i=.int .i64 t∧zBO wr g (List.replicate t (0,1)++List.replicate (W-t) (0,0))∧Below wz.heap.size wz wr) (fun i _=>W-(intOf i).toNat)
 case atStart=>exact⟨0,yAK _,rfl,by simpa using HRB0.out,by rw[<- HG.out];exact HB7.out⟩
 case round=>
  obtain⟨t,ht,rfl,hr,hbk⟩:=hrel
  by_cases hlt:t<W
  ·have hlen:(List.replicate t ((0,1):Rt)++List.replicate (W-t) (0,0)).length=W:=by simp;omega
   obtain⟨⟨z0,q0⟩,⟨z1,q1⟩,f0,f1⟩:(∃z,wr.cell? ⟨g,t*2,none⟩=some (.int .i64 z))∧(∃z,wr.cell? ⟨g,t*2+1,none⟩=some (.int .i64 z))∧wr.frozen? ⟨g,t*2,none⟩=false∧wr.frozen? ⟨g,t*2+1,none⟩=false:=by
    obtain⟨q0,q1,q2⟩:=hr.cells (k:=t) (by rw[hlen];exact hlt)
    exact⟨⟨_,q0⟩,⟨_,q1⟩,q2 _,q2 _⟩
   have hst:=hr.set (k:=t) (by rw[hlen];exact hlt) 0 1
   have e1:(List.replicate t ((0,1):Rt)++List.replicate (W-t) (0,0)).set t (0,1)=List.replicate (t+1) (0,1)++List.replicate (W-(t+1)) (0,0):=by
    rw[yCZ _ _ (by simp),show W-t=W-(t+1)+1 by omega,yEE (n:=W-(t+1)),List.replicate_succ' (n:=t)]
    simp
   rw[e1]at hst
   have hbe:Below wz.heap.size wz ((wr.setCell ⟨g,t*2,none⟩ (.int .i64 0)).setCell ⟨g,t*2+1,none⟩ (.int .i64 1)):=zAE (zAE hbk (by rw[HG.out];exact yAC _) _ _) (by rw[HG.out];exact yAC _) _ _
   have hgl:=hr.lt
   have HST:=hid hst
   have HBE:=hid hbe
   have i1:(t:Int)<(W:Int):=by omega
   clear hst hbe e1 hlen hr hbk
   go_wp2
   exact⟨⟨t+1,by omega,by go_num,HST.out,HBE.out⟩,by simp[intOf];omega⟩
  ·obtain rfl:t=W:=by omega
   rw[yCF,yGI,yBC]at hr
   have HR:=hid hr
   have HBK:=hid hbk
   obtain⟨d0,d1,d2⟩:=HS.out _ hbk
   have i1:¬((t:Int)<(t:Int)):=by omega
   clear hr hbk c0 c1 c2
   go_wp2
   clear d0 d1 d2
   obtain⟨wo,hwo⟩:=exq (wr)
   subst hwo
   go_loopw [27] (fun i wx=>∃k:Nat,k<=vn∧i=.int .i64 k∧zBO wx g (zIR t f.1 f.2 k)∧Below wz.heap.size wz wx) (fun i _=>vn-(intOf i).toNat)
   case atStart=>exact⟨0,yAK _,rfl,HR.out,HBK.out⟩
   case round=>
    obtain⟨k,hk,rfl,hr,hbk⟩:=hrel
    by_cases hlt:k<vn
    ·obtain⟨hp,hv⟩:=HP.out _ hbk
     have hkp:k<f.1.length:=by rw[HPN.out];exact hlt
     have hkv:k<f.2.length:=by rw[HVN.out];exact hlt
     obtain⟨pb,po,rfl,hpb,hpc⟩:=hp k hkp
     obtain⟨vb,vo,rfl,hvb,hv0,hv1⟩:=hv k hkv
     have e0:f.1[k]?.getD 0=f.1[k]:=by rw[yAA hkp];rfl
     rw[e0]at hpc
     have hbd:=HSO.out.2 _ (yAH hkp)
     obtain⟨j,hj⟩:∃j:Nat,j=(f.1[k]).toNat:=⟨_,rfl⟩
     have hjv:f.1[k]=(j:Int):=by omega
     rw[hjv]at hpc
     have hjt:j<t:=by omega
     have hra:zAB f.2 k=f.2[k]:=by unfold zAB;rw[yAA hkv];rfl
     rw[<- hra]at hv0 hv1
     have hsu:zIR t f.1 f.2 (k+1)=(zIR t f.1 f.2 k).set j (zAB f.2 k):=by
      show(zIR t f.1 f.2 k).set (f.1[k]?.getD 0).toNat _=_
      rw[e0,<- hj]
     obtain⟨⟨rn,rd⟩,hrr⟩:∃r,r=zAB f.2 k:=⟨_,rfl⟩
     rw[<- hrr]at hv0 hv1 hsu
     have hst:=hr.set (k:=j) (by rw[zGB];exact hjt) rn rd
     rw[<- hsu]at hst
     obtain⟨⟨z0,q0⟩,⟨z1,q1⟩,f0,f1⟩:(∃z,wr.cell? ⟨g,j*2,none⟩=some (.int .i64 z))∧(∃z,wr.cell? ⟨g,j*2+1,none⟩=some (.int .i64 z))∧wr.frozen? ⟨g,j*2,none⟩=false∧wr.frozen? ⟨g,j*2+1,none⟩=false:=by
      obtain⟨q0,q1,q2⟩:=hr.cells (k:=j) (by rw[zGB];exact hjt)
      exact⟨⟨_,q0⟩,⟨_,q1⟩,q2 _,q2 _⟩
     have hbe:Below wz.heap.size wz ((wr.setCell ⟨g,j*2,none⟩ (.int .i64 rn)).setCell ⟨g,j*2+1,none⟩ (.int .i64 rd)):=zAE (zAE hbk (by rw[HG.out];exact yAC _) _ _) (by rw[HG.out];exact yAC _) _ _
     obtain⟨_,d1,_⟩:=HS.out _ hbk
     have hgl:=hr.lt
     have HST:=hid hst
     have HBE:=hid hbe
     have i1:(k:Int)<(vn:Int):=by omega
     have i2:(0:Int)<=(k:Int):=by omega
     have i3:(j:Int)<(t:Int):=by omega
     simp only[]at hv0 hv1
     clear hp hv hkp hkv e0 hbd hj hjv hra hsu hrr hst hr hbk hbe hpb hvb
     go_wp2
     exact⟨⟨k+1,by omega,by go_num,HST.out,HBE.out⟩,by simp[intOf];omega⟩
    ·obtain rfl:k=vn:=by omega
     have HR2:=hid (show zBO wr g (sprF t f)by unfold sprF;rw[HPN.out];exact hr)
     have HBK2:=hid (zAA HBZ.out hbk)
     have i2:¬((k:Int)<(k:Int)):=by omega
     clear hr hbk
     go_wp2
     go_ret
     exact⟨g,rfl,HFS.out.2,HR2.out,HBK2.out⟩
end
section
open Go.RowKit
theorem zPN(n lo hi:Int)(w:World):Calls Tryz.prog 93 #[.int .i64 n,.int .i64 lo,.int .i64 hi] w fun e w'=>e=.returned (.bool (inB n lo hi))∧w=w':=by
 by_cases h1:lo<=n<;>by_cases h2:n<=hi
 all_goals
  go_enter Tryz.func93,Tryz.ntmps93
  go_wp2
  go_ret
  exact⟨zAP (by simp[inB,h1,h2]),rfl⟩
end
section
open Go.RowKit
theorem any_neg(h:List Int):h.any (fun n=>decide (n<0))=!posB h:=by
 unfold posB;rw[yDU]
 congr 1
 funext n
 rw[Bool.eq_iff_iff];simp
end
section
open Go.RowKit
theorem zPV{M:Mask}{y:List Int}(h:rdE M y=0){P:Nat}(hP:P<zAD M):(∀k (hk:k<(zBB M y).length),P<(zBB M y)[k].length)∧∀k:Nat,F2 (zAB ((zBB M y)[k]?.getD []) P):=by
 obtain⟨hok,hy,hmil⟩:=zOV h
 refine⟨fun k hk=>by rw[(zDT hok hy hmil (yAH hk)).1];exact hP,fun k=>?_⟩
 cases e:(zBB M y)[k]? with
 |none=>
  show F2 (zAB [] P)
  unfold F2 F64 zAB
  simp
 |some x=>
  obtain⟨h1,h2,_⟩:=zDT hok hy hmil (yBM e)
  show F2 (zAB x P)
  have:=zQN h2 P
  unfold F2 F64
  omega
theorem light_len{M:Mask}{y:List Int}(h:rdE M y=0):(zBB M y).length<=11264:=by
 obtain⟨hok,_⟩:=zOV h
 obtain⟨_,_,_,_,hc10⟩:=zCR hok
 have h3:=zDF M y (zAD M) (min (min 10 (zAD M)) M.length+1)
 have h4:2 ^ (zAD M)<=1024:=yCG (by omega) (show zAD M<=10 by omega)
 have h5:(min (min 10 (zAD M)) M.length+1)*2 ^ (zAD M)<=11*1024:=yAV (by omega) h4
 have h6:(zBZ M y 10).length=(zBT M y (zAD M) (min (min 10 (zAD M)) M.length+1)).length:=rfl
 have h7:(zCQ M y).length<=(zBZ M y 10).length:=yEK _ _
 have h8:(zBB M y).length=(zCQ M y).length:=yAS _
 omega
theorem zRT{M:Mask}(hok:okM M=true){c:List Int}(hc:c∈zEN M (zAD M)):c.length=zAD M:=by
 obtain⟨hO,_⟩:=zCR hok
 obtain⟨k,S,_,hS,hcc⟩:=zOL.1 hc
 have hne:S≠[]:=fun e=>by have:=zCG _ _ _ S hS;rw[e]at this;simp at this
 exact(zIF hO (zHR hS) hne hcc).1
theorem brt1(w:World):zPB Tryz.prog 120 #[] w (fun n=>decide (n<0)):=by
 intro x W hb
 by_cases h:x<0
 ·go_enter Tryz.func120,Tryz.ntmps120
  go_wp2
  go_ret
  exact⟨zAP (by simp[h]),Below.refl _ _⟩
 ·go_enter Tryz.func120,Tryz.ntmps120
  go_wp2
  go_ret
  exact⟨zAP (by simp[h]),Below.refl _ _⟩
theorem dbright_c(w:World)(a a2:Option Addr)(n cap n2 cap2:Nat)(M:Mask)(Y:List Int)(hn:M.length=n)(hn2:Y.length=n2)(hm:n<=maxLen)(hm2:n2<=maxLen)(H:zAM w a M)(H2:zAH w a2 Y)(p:Int):
 Calls Tryz.prog 59 #[.slice a n cap,.slice a2 n2 cap2,.int .i64 p] w fun e w'=>e=.returned (.tuple #[ratV (zCY M Y p).1,.int .i64 (zCY M Y p).2])∧Below w.heap.size w w':=by
 obtain⟨s,hs⟩:=exq (w.heap.size)
 obtain⟨wz,hwz⟩:=exq (w.alloc (.cells #[.int .i64 0,.int .i64 0] 29))
 have hbz:Below w.heap.size w wz:=by rw[hwz];exact(Below.refl _ _).alloc (yAC _) _
 have qa:RatI wz s (0,0):=by rw[hwz,hs];exact RatI.made w (0,0)
 have HSW:=hid (show w.heap.size<=s by omega)
 have BK:=hid (show Below wz.heap.size wz (wz.alloc (.cells #[.int .i64 p] 3))from(Below.refl _ _).alloc (yAC _) _)
 have hI:zAH (wz.alloc (.cells #[.int .i64 p] 3)) (some ⟨wz.heap.size,0,none⟩) [p]:=by
  intro j hj
  obtain rfl:j=0:=by simpa using hj
  exact⟨wz.heap.size,0,rfl,by simp,by rw[World.cell?_alloc_at _ _ _ _ rfl];rfl⟩
 have HCK:=hid (zLC (wz.alloc (.cells #[.int .i64 p] 3)) a a2 (some ⟨wz.heap.size,0,none⟩) n cap n2 cap2 1 1 M Y [p] hn hn2 rfl hm hm2 (by decide) (H.below (zAA hbz BK.out)) (H2.below (zAA hbz BK.out)) hI)
 have HQ:=hid (fun(X:World) (hX:Below wz.heap.size wz X)=>qa.keep (hX.block _ qa.lt))
 have HBZ:=hid hbz
 obtain⟨R,hR⟩:=exq (zCY M Y p)
 rw[<- hR]
 by_cases hck:zAV M Y [p]=0
 rotate_left
 ·have HR:=hid (show R=((0,0),zAV M Y [p])by rw[hR];unfold zCY;rw[if_pos hck])
  have hnf:(zAV M Y [p] !=0)=true:=by simpa using hck
  obtain⟨E,hE⟩:=exq (zAV M Y [p])
  rw[<- hE]at HCK HR hnf
  clear hn hn2 H H2 hR hbz qa hI hck hE
  go_enter Tryz.func59,Tryz.ntmps59
  go_upto_region 1 with fail
  rw[<- hs,<- hwz]
  clear hs hwz
  go_upto_region 2 with (go_at_call 101;refine HCK.out.mono ?_;rintro e w1 ⟨rfl,hb1⟩;have HB1:=hid (zAA BK.out hb1);clear hb1;refine Stop.of ?_)
  refine Stop.go ?_
  have hR2:=HQ.out _ HB1.out
  obtain⟨r0,r1,r2,r3,r4⟩:=hR2.cells
  have X1:=hid (RatI.set (p:=(0,0)) hR2)
  have X2:=hid (zCZ (zAA HBZ.out HB1.out) HSW.out (.int .i64 (0)) (.int .i64 (0)))
  clear hR2
  go_wp2
  clear r0 r1 r2 r3 r4
  generalize (w1.setCell ⟨s,0,none⟩ (.int .i64 (0))).setCell ⟨s,1,none⟩ (.int .i64 (0))=WF at X1 X2⊢
  obtain⟨t0,t1,t2,t3,t4⟩:=X1.out.cells
  refine bodyPost_ret (v:=.tuple #[.agg #[.int .i64 (0),.int .i64 (0)],.int .i64 (E)]) ?_ rfl ⟨by rw[HR.out];rfl,X2.out⟩
  simp[results,Tryz.results59,go_sem,t0,t1,t2,t3,t4]
 obtain⟨hok,hyl,hmil,hso⟩:=zFV hck
 have hpb:=hso.2 p (by simp)
 obtain⟨_,_,_,hc1,hc10⟩:=zCR hok
 have hrd:rdE M Y=0:=by unfold rdE zMW;rw[if_pos hok,if_pos hyl,hmil];rfl
 rw[hck]at HCK
 obtain⟨P,rfl⟩:∃P:Nat,p=(P:Int):=⟨p.toNat,by omega⟩
 have hPW:P<zAD M:=by omega
 have hP10:P<=10:=by omega
 obtain⟨L,hL⟩:=exq (zBB M Y)
 have HCO:=hid (fun(X X2:World) (hX:Below w.heap.size w X) (hX2:X2=X.alloc (.cells #[.slice a n cap,.slice a2 n2 cap2] 86))=>show Calls Tryz.prog 118 #[.func (.func 172) #[] #[.pointer (some ⟨X.heap.size,0,none⟩)]] X2 fun e w'=>(∃b c,e=.returned (.slice b L.length c)∧L.length<=11264∧zKD w' b L)∧Below X2.heap.size X2 w' from by
  have hb2:Below X.heap.size X X2:=by rw[hX2];exact(Below.refl _ X).alloc (yAC _) _
  have e1:X2.heap[X.heap.size]? =some (.cells #[.slice a n cap,.slice a2 n2 cap2] 86 (0,0)):=by rw[hX2];exact World.alloc_heap_new _ _
  refine(zRP X2 X.heap.size a a2 n cap n2 cap2 M Y hn hn2 hm hm2 hrd (yAB.1 e1).1 e1 ((H.below hX).below hb2) ((H2.below hX).below hb2)).mono ?_
  rintro e w' ⟨hb,v,base,rfl,_,hp⟩
  obtain⟨va,vc,rfl⟩:=hp.slice
  obtain⟨_,_,h3⟩:=hp.reads (by unfold maxLen;omega)
  rw[hL]
  exact⟨⟨va,vc,rfl,light_len hrd,h3⟩,hb⟩)
 have hlen:zCQ M Y=[]↔L.length=0:=by
  rw[hL,yBT]
  unfold zBB
  rw[List.map_eq_nil_iff]
 by_cases hnl:L.length=0
 ·have HR:=hid (show R=((0,0),8)by rw[hR];unfold zCY;rw[if_neg (fun h=>h hck),if_pos (hlen.2 hnl)])
  have hnz:((L.length:Int)==0)=true:=by simp[hnl]
  clear hn hn2 H H2 hR hbz qa hI hok hyl hmil hso hpb hc1 hc10 hrd hPW hP10 hL hlen hck hnl
  go_enter Tryz.func59,Tryz.ntmps59
  go_upto_region 1 with fail
  rw[<- hs,<- hwz]
  clear hs hwz
  go_upto_region 2 with (go_at_call 101;refine HCK.out.mono ?_;rintro e w1 ⟨rfl,hb1⟩;have HB1:=hid (zAA BK.out hb1);clear hb1;refine Stop.of ?_)
  refine Stop.go ?_
  go_upto_region 4 with fail
  go_wp2_with (go_at_call 114;refine(dlights_c _ _ _ _ _ _ _).mono ?_;rintro e w2 ⟨rfl,hw2⟩;have HW2:=hid hw2;clear hw2;refine Stop.of ?_)
  refine Stop.go ?_
  have HB12:=hid (show Below w1.heap.size w1 w2 by rw[HW2.out];exact(Below.refl _ w1).alloc (yAC _) _)
  have hco:=HCO.out w1 w2 (zAA HBZ.out HB1.out) HW2.out
  have HC2:=hid hco
  clear hco
  go_upto_region 5 with (go_at_call 118;refine HC2.out.mono ?_;rintro e w3 ⟨⟨fa,fc,rfl,hlm,hpa⟩,hb3⟩;have HB3:=hid (zAA HB1.out (zAA HB12.out hb3));have HPA:=hid hpa;have HLM:=hid hlm;clear hb3 hpa hlm;refine Stop.of ?_)
  refine Stop.go ?_
  have hR2:=HQ.out _ HB3.out
  obtain⟨r0,r1,r2,r3,r4⟩:=hR2.cells
  have X1:=hid (RatI.set (p:=(0,0)) hR2)
  have X2:=hid (zCZ (zAA HBZ.out HB3.out) HSW.out (.int .i64 (0)) (.int .i64 (0)))
  clear hR2
  go_wp2
  clear r0 r1 r2 r3 r4
  generalize (w3.setCell ⟨s,0,none⟩ (.int .i64 (0))).setCell ⟨s,1,none⟩ (.int .i64 (0))=WF at X1 X2⊢
  obtain⟨t0,t1,t2,t3,t4⟩:=X1.out.cells
  refine bodyPost_ret (v:=.tuple #[.agg #[.int .i64 (0),.int .i64 (0)],.int .i64 (8)]) ?_ rfl ⟨by rw[HR.out];rfl,X2.out⟩
  simp[results,Tryz.results59,go_sem,t0,t1,t2,t3,t4]
 obtain⟨g2,g3⟩:=zPV (M:=M) (y:=Y) hrd hPW
 rw[<- hL]at g2 g3
 have HCI:=hid (fun(X:World) (hX:Below w.heap.size w X)=>show Calls Tryz.prog 119 #[.slice a n cap] X fun e w'=>(∃b c,e=.returned (.tuple #[.slice b (zEN M (zAD M)).length c,.int .i64 0])∧(zEN M (zAD M)).length<=maxLen∧zAM w' b (zEN M (zAD M)))∧Below X.heap.size X w' from by
  refine(circuits_c X a n cap M hn hm (H.below hX)).mono ?_
  rintro e w' ⟨v,base,hbs,hb,⟨h,_⟩|⟨_,rfl,hr⟩⟩
  ·rw[hok]at h;cases h
  ·obtain⟨ra,rc,rfl,h1,h2,_⟩:=hr.reads
   exact⟨⟨ra,rc,rfl,h1,h2⟩,hb⟩)
 have HCL:=hid (fun(c:List Int) (hc:c∈zEN M (zAD M))=>zRT hok hc)
 have HRY:=hid (show rayB M P=(zEN M (zAD M)).any fun c=>posB c&&decide (0<vec c P)from rfl)
 have HR1:=hid (show rayB M P=true->R=((0,0),10)from fun h=>by
  rw[hR];unfold zCY;rw[if_neg (fun h=>h hck),if_neg (fun h=>hnl (hlen.1 h)),if_pos (by rw[show((P:Int)).toNat=P by omega];exact h)])
 obtain⟨hi,hhi⟩:=exq ((zOS L P).2)
 obtain⟨lo,hlo⟩:=exq ((zOS L P).1)
 have HR2:=hid (show rayB M P=false->R=(hi,0)from fun h=>by
  rw[hR,hhi,hL];unfold zCY;rw[if_neg (fun h=>h hck),if_neg (fun h=>hnl (hlen.1 h)),if_neg (by rw[show((P:Int)).toNat=P by omega,h];simp),show((P:Int)).toNat=P by omega])
 have HSPN:=hid (fun(Z:World) (ca:Option Addr) (c:Nat) (h1:L.length<=11264) (h2:zKD Z ca L)=>show Calls Tryz.prog 102 #[.slice ca L.length c,.int .i64 P] Z fun e w'=>e=.returned (.tuple #[.agg #[.int .i64 lo.1,.int .i64 lo.2],.agg #[.int .i64 hi.1,.int .i64 hi.2]])∧Below Z.heap.size Z w' from by
  rw[hlo,hhi]
  exact dspan_c Z ca L.length c P L rfl (by omega) h1 hP10 h2 g2 g3)
 obtain⟨C,hC⟩:=exq (zEN M (zAD M))
 rw[<- hC]at HCI HCL HRY
 obtain⟨Wd,hWd⟩:=exq (zAD M)
 rw[<- hWd]at HCL hPW
 have HPW:=hid hPW
 have HW10:=hid (show Wd<=10 by omega)
 have hnz:((L.length:Int)==0)=false:=beq_eq_false_iff_ne.2 (by omega)
 have HNL:=hid hnl
 clear hn hn2 H H2 hR hbz qa hI hok hyl hmil hso hpb hc1 hc10 hrd hP10 hL hlen hck hhi hlo g2 g3 hC hWd hPW hnl
 go_enter Tryz.func59,Tryz.ntmps59
 go_upto_region 1 with fail
 rw[<- hs,<- hwz]
 clear hs hwz
 go_upto_region 2 with (go_at_call 101;refine HCK.out.mono ?_;rintro e w1 ⟨rfl,hb1⟩;have HB1:=hid (zAA BK.out hb1);clear hb1;refine Stop.of ?_)
 refine Stop.go ?_
 go_upto_region 4 with fail
 go_wp2_with (go_at_call 114;refine(dlights_c _ _ _ _ _ _ _).mono ?_;rintro e w2 ⟨rfl,hw2⟩;have HW2:=hid hw2;clear hw2;refine Stop.of ?_)
 refine Stop.go ?_
 have HB12:=hid (show Below w1.heap.size w1 w2 by rw[HW2.out];exact(Below.refl _ w1).alloc (yAC _) _)
 have hco:=HCO.out w1 w2 (zAA HBZ.out HB1.out) HW2.out
 have HC2:=hid hco
 clear hco
 go_upto_region 5 with (go_at_call 118;refine HC2.out.mono ?_;rintro e w3 ⟨⟨fa,fc,rfl,hlm,hpa⟩,hb3⟩;have HB3:=hid (zAA HB1.out (zAA HB12.out hb3));have HPA:=hid hpa;have HLM:=hid hlm;clear hb3 hpa hlm;refine Stop.of ?_)
 refine Stop.go ?_
 go_upto_region 7 with fail
 clear hnz
 go_upto_region 8 with (go_at_call 119;refine(HCI.out _ (zAA HBZ.out HB3.out)).mono ?_;rintro e w4 ⟨⟨ra,rc,rfl,hcm,hrw⟩,hb4⟩;have HB4:=hid (zAA HB3.out hb4);have HB34:=hid hb4;have HRW:=hid hrw;have HCM:=hid hcm;clear hb4 hrw hcm;refine Stop.of ?_)
 refine Stop.go ?_
 have hcm:=HCM.out
 unfold maxLen at hcm
 go_wp2
 go_loopw [41] (fun i wr=>∃k:Nat,k<=C.length∧i=.int .i64 k∧Hid (∀q,q<k->(posB (C[q]?.getD [])&&decide (0<vec (C[q]?.getD []) P))=false)∧Below w4.heap.size w4 wr) (fun i _=>C.length-(intOf i).toNat)
 case atStart=>exact⟨0,yAK _,rfl,hid (fun q h=>by omega),Below.refl _ _⟩
 case round=>
  obtain⟨k,hk,rfl,HQQ,hbk⟩:=hrel
  by_cases hkl:k<C.length
  ·obtain⟨b,off,xa,xn,xc,rfl,hbs,hc0,hxn,hxm,hxi⟩:=(HRW.out.below hbk) k hkl
   have hcl:=HCL.out _ (yAH hkl)
   obtain⟨c,hc⟩:=exq (C[k]'hkl)
   rw[<- hc]at hxn hxi hcl
   have HCK2:=hid (show C[k]?.getD []=c by rw[yAA hkl,hc];rfl)
   obtain rfl:xn=Wd:=by omega
   obtain⟨cb,co,rfl,hcb,hcc⟩:=hxi P (by rw[hcl];exact HPW.out)
   have hv:c[P]?.getD 0=vec c P:=rfl
   rw[hv]at hcc
   obtain⟨v,hvv⟩:=exq (vec c P)
   rw[<- hvv]at hcc
   have HV:=hid hvv
   have HXI:=hid hxi
   have HXN:=hid hcl
   have HBK2:=hid hbk
   have i1:(P:Int)<(xn:Int):=by have:=HPW.out;omega
   have i2:(k:Int)<(C.length:Int):=by omega
   have hi0:(0:Int)<=(P:Int):=by omega
   have HMC:=hid (show c∈C by rw[hc];exact yAH hkl)
   have HNX:=hid (show(posB c&&decide (0<v))=false->∀q,q<k+1->(posB (C[q]?.getD [])&&decide (0<vec (C[q]?.getD []) P))=false from fun h q hq=>by
    rcases yAP q k with h2|h2
    ·exact HQQ.out q h2
    ·obtain rfl:q=k:=by omega
     rw[HCK2.out,<- hvv];exact h)
   have HKL:=hid hkl
   clear hc hcl hv hvv hxi hbk hxn hbs hcb
   by_cases hp0:0<v
   ·have HCF:=hid (zJU wr (some ⟨cb,co,none⟩) xn xc c HXN.out hxm HXI.out 120 #[] (fun n=>decide (n<0)) (enters_of Tryz.func120 (by kernel_rfl) rfl) (brt1 wr))
    rw[any_neg]at HCF
    obtain⟨nb,hnb⟩:=exq (posB c)
    rw[<- hnb]at HCF
    have HNB:=hid hnb
    clear hnb
    go_upto_region 11 with fail
    go_wp2_with (go_at_call 105;refine HCF.out.mono ?_;rintro e w5 ⟨rfl,hb5⟩;have HB5:=hid (zAA HB4.out (zAA HBK2.out hb5));have HB45:=hid (zAA HBK2.out hb5);clear hb5;refine Stop.of ?_)
    refine Stop.go ?_
    cases nb
    ·have HQ3:=hid (HNX.out (by rw[<- HNB.out];rfl))
     go_wp2
     refine⟨⟨k+1,by omega,by go_num,HQ3,HB45.out⟩,by simp[intOf];omega⟩
    ·have HRT:=hid (HR1.out (by rw[HRY.out];exact yDO.2 ⟨c,HMC.out,by rw[<- HNB.out,<- HV.out];simpa using hp0⟩))
     have hR2:=HQ.out _ HB5.out
     obtain⟨r0,r1,r2,r3,r4⟩:=hR2.cells
     have X1:=hid (RatI.set (p:=(0,0)) hR2)
     have X2:=hid (zCZ (zAA HBZ.out HB5.out) HSW.out (.int .i64 (0)) (.int .i64 (0)))
     clear hR2
     go_wp2
     clear r0 r1 r2 r3 r4
     generalize (w5.setCell ⟨s,0,none⟩ (.int .i64 (0))).setCell ⟨s,1,none⟩ (.int .i64 (0))=WF at X1 X2⊢
     obtain⟨t0,t1,t2,t3,t4⟩:=X1.out.cells
     refine bodyPost_ret (v:=.tuple #[.agg #[.int .i64 (0),.int .i64 (0)],.int .i64 (10)]) ?_ rfl ⟨by rw[HRT.out];rfl,X2.out⟩
     simp[results,Tryz.results59,go_sem,t0,t1,t2,t3,t4]
   ·have HQ3:=hid (HNX.out (by rw[decide_eq_false hp0,Bool.and_false]))
    go_wp2
    refine⟨⟨k+1,by omega,by go_num,HQ3,HBK2.out⟩,by simp[intOf];omega⟩
  ·obtain rfl:k=C.length:=by omega
   have HRF:=hid (HR2.out (by
    rw[HRY.out,Bool.eq_false_iff]
    intro h
    obtain⟨c,hc,h2⟩:=yDO.1 h
    obtain⟨q,hq,rfl⟩:=yAM.1 hc
    have:=HQQ.out q hq
    rw[yAA hq]at this
    rw[yBA,h2]at this
    cases this))
   have HBK2:=hid hbk
   have i2:¬(C.length:Int)<(C.length:Int):=by omega
   have HSP:=hid (HSPN.out wr fa fc HLM.out (HPA.out.below (zAA HB34.out hbk)))
   clear hbk HQQ HR1 HR2 HNL
   go_upto_region 14 with fail
   go_upto_region 15 with (go_at_call 102;refine HSP.out.mono ?_;rintro e w5 ⟨rfl,hb5⟩;have HB5:=hid (zAA HB4.out (zAA HBK2.out hb5));clear hb5;refine Stop.of ?_)
   refine Stop.go ?_
   go_upto_region 15 with fail
   obtain⟨g,hg⟩:=exq (w5.heap.size+1)
   obtain⟨w6,hw6⟩:=exq ((w5.alloc (.cells #[.int .i64 lo.1,.int .i64 lo.2] 29)).alloc (.cells #[.int .i64 hi.1,.int .i64 hi.2] 29))
   rw[<- hg,<- hw6]
   have hg6:RatI w6 g hi:=by
    have h:=RatI.made (w5.alloc (.cells #[.int .i64 lo.1,.int .i64 lo.2] 29)) hi
    rw[World.size_alloc]at h
    rw[hw6,hg];exact h
   have HB6:=hid (show Below wz.heap.size wz w6 by rw[hw6];exact(HB5.out.alloc HB5.out.size _).alloc (by have:=HB5.out.size;simp;omega) _)
   obtain⟨g0,g1,_⟩:=hg6.cells
   clear hg hw6 hg6
   have hR2:=HQ.out _ HB6.out
   obtain⟨r0,r1,r2,r3,r4⟩:=hR2.cells
   have X1:=hid (RatI.set (p:=(hi.1,hi.2)) hR2)
   have X2:=hid (zCZ (zAA HBZ.out HB6.out) HSW.out (.int .i64 (hi.1)) (.int .i64 (hi.2)))
   clear hR2
   go_wp2
   clear r0 r1 r2 r3 r4
   generalize (w6.setCell ⟨s,0,none⟩ (.int .i64 (hi.1))).setCell ⟨s,1,none⟩ (.int .i64 (hi.2))=WF at X1 X2⊢
   obtain⟨t0,t1,t2,t3,t4⟩:=X1.out.cells
   refine bodyPost_ret (v:=.tuple #[.agg #[.int .i64 (hi.1),.int .i64 (hi.2)],.int .i64 (0)]) ?_ rfl ⟨by rw[HRF.out];rfl,X2.out⟩
   simp[results,Tryz.results59,go_sem,t0,t1,t2,t3,t4]
end
section
open Go.RowKit
theorem light_pos{M:Mask}{y:List Int}(hM:okM M=true)(hy:y.length=M.length)(hmil:milB y=true){f:FitT}(hf:f∈zBZ M y 10):(f.2.all fun r=>decide (0<r.1))=zDM f:=by
 obtain⟨_,_,_,hnz,_⟩:=zKL hM hy hmil hf
 unfold zDM
 rw[Bool.eq_iff_iff,yAT,yAT]
 constructor
 ·intro h r hr
  have:=of_decide_eq_true (h r hr)
  exact decide_eq_true (by omega)
 ·intro h r hr
  have h1:=of_decide_eq_true (h r hr)
  have h2:=hnz r hr
  exact decide_eq_true (by omega)
def LigP(L:List FitT)(e:Ending)(W:World):Prop:=∃b c,e=.returned (.slice b L.length c)∧zGI W b L
theorem r5lights_c(w:World)(a a2:Option Addr)(n cap n2 cap2:Nat)(M:Mask)(Y:List Int)(hn:M.length=n)(hn2:Y.length=n2)(hm:n<=maxLen)(hm2:n2<=maxLen)(H:zAM w a M)(H2:zAH w a2 Y)(h0:rdE M Y=0):
 Calls Tryz.prog 121 #[.slice a n cap,.slice a2 n2 cap2] w fun e w'=>LigP (zCQ M Y) e w'∧Below w.heap.size w w':=by
 obtain⟨hok,hy,hmil⟩:=zOV h0
 obtain⟨_,_,_,_,hc10⟩:=zCR hok
 have HAL:=hid (r4All_c w a a2 n cap n2 cap2 M Y hn hn2 hm hm2 H H2 hok)
 rw[zOP hc10]at HAL
 have HFL:=hid (show(zBZ M Y 10).length<=11264 by
  have h3:=zDF M Y (zAD M) (min (min 10 (zAD M)) M.length+1)
  have h4:2 ^ (zAD M)<=1024:=yCG (by omega) (show zAD M<=10 by omega)
  have h5:(min (min 10 (zAD M)) M.length+1)*2 ^ (zAD M)<=11*1024:=yAV (by omega) h4
  have h6:(zBZ M Y 10).length=(zBT M Y (zAD M) (min (min 10 (zAD M)) M.length+1)).length:=rfl
  omega)
 have HPO:=hid (fun(f:FitT) (hf:f∈zBZ M Y 10)=>light_pos hok hy hmil hf)
 have HV10:=hid (fun(f:FitT) (hf:f∈zBZ M Y 10)=>show f.2.length<=10 from by
  obtain⟨k1,k2,_⟩:=zHF hok hy hmil hf
  have:=zPJ k1
  omega)
 have HLF:=hid (show zCQ M Y=(zBZ M Y 10).filter zDM from rfl)
 obtain⟨F,hF⟩:=exq (zBZ M Y 10)
 rw[<- hF]at HAL HFL HPO HV10 HLF
 obtain⟨LF,hLF⟩:=exq (zCQ M Y)
 rw[<- hLF]at HLF⊢
 clear hn hn2 H H2 h0 hok hy hmil hc10 hF hLF
 go_enter Tryz.func121,Tryz.ntmps121
 go_wp2_with (go_at_call 157;refine HAL.out.mono ?_;rintro e X ⟨v,base,rfl,_,hfo,hbX⟩;refine Stop.of ?_)
 refine Stop.go ?_
 obtain⟨fa,fc,rfl,_,hfa⟩:=hfo.reads
 have HFA:=hid hfa
 have HBX:=hid hbX
 have hfl:=HFL.out
 clear hfo hfa hbX HAL
 go_wp2
 go_loopw [5,15] (fun v i wr=>∃k:Nat,k<=F.length∧i=.int .i64 k∧TabF X wr v ((F.take k).filter zDM)∧Below X.heap.size X wr) (fun _ i _=>F.length-(intOf i).toNat)
 case atStart=>exact⟨0,yAK _,rfl,TabF.nil _ _,Below.refl _ _⟩
 case round=>
  obtain⟨k,hk,rfl,hT,hbk⟩:=hrel
  obtain⟨wo,hwo⟩:=exq (wr)
  subst hwo
  by_cases hlt:k<F.length
  ·obtain⟨b,off,us,ur,rfl,hb,q0,q1,hd⟩:=HFA.out.hd hlt
   obtain⟨pa,pn,pc,va,vn,vc,rfl,rfl,hpn,hpm,hpi,hvn,hvm,hvr⟩:=id hd
   have q0':wo.cell? ⟨b,off+k*2,none⟩=some (.slice pa pn pc):=(hbk.cell (p:=⟨b,_,none⟩) hb).trans q0
   have q1':wo.cell? ⟨b,off+k*2+1,none⟩=some (.slice va vn vc):=(hbk.cell (p:=⟨b,_,none⟩) hb).trans q1
   obtain⟨f,hf⟩:=exq (F[k])
   rw[<- hf]at hd hpn hpi hvn hvr
   have hfm:f∈F:=by rw[hf];exact yAH hlt
   have hft:F.take (k+1)=F.take k++[f]:=by rw[hf];exact yAI hlt
   have HFT:=hid hft
   have HPF:=hid (HPO.out f hfm)
   have hv10:=HV10.out f hfm
   have HDF:=hid hd
   have HFR:=hid hvr
   have HVN:=hid hvn
   have hvn10:vn<=10:=by omega
   have i1:(k:Int)<(F.length:Int):=by omega
   have hk9:k<=11264:=by omega
   have i0:(0:Int)<=(k:Int):=by omega
   have HTL:=hid (show((F.take k).filter zDM).length<=11264 by
    have h1:=yEK zDM (F.take k)
    have h2:(F.take k).length<=k:=by rw[yAU];omega
    omega)
   have HTT:=hid hT
   have HBK:=hid hbk
   clear hd hpn hpm hpi hvn hvm hvr hf hfm hft hT hbk hv10 q0 q1 hb
   go_upto_region 5 with fail
   obtain⟨h,hh⟩:=exq (wo.heap.size)
   obtain⟨wh,hwh⟩:=exq (wo.alloc (.cells #[.slice pa pn pc,.slice va vn vc] 73))
   rw[<- hh,<- hwh]
   have hbh:Below wo.heap.size wo wh:=by rw[hwh];exact(Below.refl _ _).alloc (yAC _) _
   have hch:wh.heap[h]? =some (.cells #[.slice pa pn pc,.slice va vn vc] 73 (0,0)):=by rw[hwh,hh];exact World.alloc_heap_new _ _
   have HCH:=hid (fun(Z:World) (hZ:Below wh.heap.size wh Z)=>show Z.cell? ⟨h,0,none⟩=some (.slice pa pn pc)∧Z.cell? ⟨h,1,none⟩=some (.slice va vn vc)from by
    have h1:=(hZ.block h (yAB.1 hch).1).trans hch
    exact⟨by simp[World.cell?,h1],by simp[World.cell?,h1]⟩)
   have HTH:=hid (HTT.out.below hbh)
   have HBH:=hid (zAA HBK.out hbh)
   clear q0' q1' hh hwh hbh hch HTT HBK
   obtain⟨c0,c1⟩:=HCH.out wh (Below.refl _ _)
   obtain⟨ta,tc,hvt⟩:=HTH.out.slice
   subst hvt
   go_wp2
   go_loopw [8,22] (fun lv j wx=>∃t:Nat,t<=vn∧j=.int .i64 t∧lv=.bool ((f.2.take t).all fun r=>decide (0<r.1))∧Below wh.heap.size wh wx) (fun _ j _=>vn-(intOf j).toNat)
   case atStart=>exact⟨0,yAK _,rfl,rfl,Below.refl _ _⟩
   case round=>
    obtain⟨t,ht,rfl,rfl,hbt⟩:=hrel
    by_cases htl:t<vn
    ·have htf:t<f.2.length:=by rw[HVN.out];exact htl
     obtain⟨rb,ro,rfl,hrb,hr0,hr1⟩:=HFR.out t htf
     have z0:wr.cell? ⟨rb,ro+t*2,none⟩=some (.int .i64 (f.2[t]'htf).1):=((zAA HBH.out hbt).cell (p:=⟨rb,_,none⟩) hrb).trans hr0
     have z1:wr.cell? ⟨rb,ro+t*2+1,none⟩=some (.int .i64 (f.2[t]'htf).2):=((zAA HBH.out hbt).cell (p:=⟨rb,_,none⟩) hrb).trans hr1
     have hts:(f.2.take (t+1)).all (fun r=>decide (0<r.1))=((f.2.take t).all (fun r=>decide (0<r.1))&&decide (0<(f.2[t]'htf).1)):=by
      rw[yAI htf,List.all_append];simp
     obtain⟨⟨N,D⟩,hND⟩:∃q,q=f.2[t]'htf:=⟨_,rfl⟩
     rw[<- hND]at z0 z1 hts
     simp only[]at z0 z1 hts
     obtain⟨lb,hlb⟩:=exq ((f.2.take t).all (fun r=>decide (0<r.1)))
     rw[<- hlb]at hts⊢
     have HTS:=hid hts
     have HBT:=hid hbt
     have j1:(t:Int)<(vn:Int):=by omega
     have j0:(0:Int)<=(t:Int):=by omega
     clear hts hbt hND hlb hr0 hr1 hrb
     go_upto_region 9 with fail
     obtain⟨wb,hwb⟩:=exq (wr.alloc (.cells #[.int .i64 N,.int .i64 D] 29))
     obtain⟨rq,hrq⟩:=exq (wr.heap.size)
     rw[<- hrq,<- hwb]
     have hrw:RatI wb rq (N,D):=by rw[hwb,hrq];exact RatI.made wr (N,D)
     have HBB:=hid (show Below wh.heap.size wh wb by rw[hwb];exact HBT.out.alloc HBT.out.size _)
     obtain⟨y0,y1,_⟩:=hrw.cells
     simp only[]at y0 y1
     clear hwb hrq hrw
     by_cases hN:0<N
     ·have e1:(f.2.take (t+1)).all (fun r=>decide (0<r.1))=lb:=by rw[HTS.out,decide_eq_true hN,Bool.and_true]
      have HE1:=hid e1
      clear e1
      cases lb
      ·go_wp2
       refine⟨⟨t+1,by omega,by go_num,by rw[HE1.out],HBB.out⟩,by simp[intOf];omega⟩
      ·go_wp2
       refine⟨⟨t+1,by omega,by go_num,by rw[HE1.out],HBB.out⟩,by simp[intOf];omega⟩
     ·have e1:(f.2.take (t+1)).all (fun r=>decide (0<r.1))=false:=by rw[HTS.out,decide_eq_false hN,Bool.and_false]
      have HE1:=hid e1
      clear e1
      cases lb
      ·go_wp2
       refine⟨⟨t+1,by omega,by go_num,by rw[HE1.out],HBB.out⟩,by simp[intOf];omega⟩
      ·go_wp2
       refine⟨⟨t+1,by omega,by go_num,by rw[HE1.out],HBB.out⟩,by simp[intOf];omega⟩
    ·obtain rfl:t=vn:=by omega
     have hla:((f.2.take t).all fun r=>decide (0<r.1))=zDM f:=by rw[yAL (by rw[HVN.out];exact yAC _)];exact HPF.out
     rw[hla]
     obtain⟨lb,hlb⟩:=exq (zDM f)
     rw[<- hlb]
     have HLB:=hid hlb.symm
     have HBT:=hid hbt
     have HTX:=hid (HTH.out.below hbt)
     have j1:¬(t:Int)<(t:Int):=by omega
     clear hla hlb hbt
     cases lb
     ·have HNX:=hid (show(F.take (k+1)).filter zDM=(F.take k).filter zDM by rw[HFT.out,yCK,yGV (by rw[HLB.out];simp),List.filter_nil,yBC])
      go_wp2
      refine⟨⟨k+1,by omega,by go_num,by rw[HNX.out];exact HTX.out,zAA HBH.out HBT.out⟩,by simp[intOf];omega⟩
     ·have HNX:=hid (show(F.take (k+1)).filter zDM=(F.take k).filter zDM++[f]by rw[HFT.out,yCK,yGU (by rw[HLB.out]),List.filter_nil])
      obtain⟨TL,hTL⟩:=exq ((F.take k).filter zDM)
      rw[<- hTL]at HTX HNX HTL⊢
      obtain⟨Q,hQ⟩:=exq (TL.length)
      rw[<- hQ]at HTL
      obtain⟨xs,hoo,hoe⟩:=HTX.out
      rw[<- hQ]at hoo⊢
      have HOO:=hid hoo
      have HOE:=hid hoe
      have HQQ:=hid hQ.symm
      have HXL:=hid hoo.1
      have HNW:=hid (news2 wr (.slice pa pn pc) (.slice va t vc) 73)
      have M1:=hid (show Q+1<=maxLen by have:=HTL.out;unfold maxLen;omega)
      have M2:=hid (show(Q+1)*48<=140737488355328 by have:=HTL.out;omega)
      have HBG:=hid (zAA HBH.out HBT.out)
      have M3:=hid (yAF HBG.out.size (zCL wr (.cells #[.slice pa pn pc,.slice va t vc] 73)))
      have HONE:=hid (show ∀u∈[Value.slice pa pn pc,.slice va t vc],u.oneCell'=true from fun u hu=>by simp at hu;rcases hu with rfl|rfl<;>rfl)
      obtain⟨y0,y1⟩:=HCH.out _ HBT.out
      clear hoo hoe hTL hQ c0 c1
      go_wp2_with (at_builtin;refine zAN _ rfl (.tmp 34) (.tmp 36) 87 rfl X.heap.size 73 (.agg #[.slice none 0 0,.slice none 0 0]) 2 48 Tryz.underlying87 zMH rfl (by decide) (.slice ta Q tc) Q xs rfl (HOO.out.alloc _) (some ⟨wr.heap.size,0,none⟩) 1 1 [.slice pa pn pc,.slice va t vc] rfl rfl zBS HNW.out HONE.out M1.out M2.out M3.out ?_;intro a9 c9 w9 own9 g9;refine Stop.of ?_)
      refine Stop.go ?_
      have HSN:=hid (TabF.snoc (t:=f) HQQ.out HXL.out HOE.out HDF.out own9)
      have HB9:=hid (show Below X.heap.size X w9 from(HBG.out.alloc HBG.out.size _).grown g9 M3.out (fun g hg=>(HOO.out.lt g hg).1))
      clear own9 g9 y0 y1
      go_wp2
      refine⟨⟨k+1,by omega,by go_num,by rw[HNX.out];exact HSN.out,HB9.out⟩,by simp[intOf];omega⟩
  ·obtain rfl:k=F.length:=by omega
   rw[yAL (yAC _),<- HLF.out]at hT
   obtain⟨va,vc,rfl,_,hfa⟩:=hT.reads hbk
   have HFI:=hid hfa
   have HBK:=hid hbk
   have i1:¬(F.length:Int)<(F.length:Int):=by omega
   clear hT hfa hbk
   go_wp2
   go_ret
   exact⟨⟨va,vc,rfl,HFI.out⟩,zAA HBX.out HBK.out⟩
end
end Go.Proofs.YtlffndehhhpgjaaGreat
