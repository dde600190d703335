/- Walks and plain laws for DualRangesRow, part 17. -/
import Derived.Test.YtlffndehhhpgjaaGreatPkDualRangesRow16
namespace Go.Proofs.YtlffndehhhpgjaaGreat
set_option linter.unusedVariables false
set_option linter.unusedSimpArgs false
set_option maxRecDepth 100000
set_option maxHeartbeats 4000000
section
open Go.RowKit
def F2(r:Rt):Prop:=F64 r.1∧F64 r.2
theorem span_f{l:List (List Rt)}{p:Nat}(h:∀k:Nat,F2 (zAE (l[k]?.getD []) p)):∀k:Nat,F2 (zAZ l p k).1∧F2 (zAZ l p k).2
 |0=>by unfold zAZ F2 F64;simp only[];omega
 |k+1=>by
  obtain⟨h1,h2⟩:=span_f h k
  show F2 (if _ then _ else _)∧F2 (if _ then _ else _)
  constructor
  ·split
   ·exact h k
   ·exact h1
  ·split
   ·exact h k
   ·exact h2
theorem cmpF_self(r:Rt):cmpF r r=0:=by
 unfold cmpF cmpR cmpI;rw[if_neg (by omega),if_pos rfl]
theorem zOS(l:List (List Rt))(p:Nat):zAZ l p 1=(zAE (l[0]?.getD []) p,zAE (l[0]?.getD []) p):=by simp[zAZ]
theorem ends_step{l:List (List Rt)}{p:Nat}(k:Nat):(zAZ l p (max (k+1) 1)).1=(if cmpF (zAE (l[k]?.getD []) p) (zAZ l p (max k 1)).1<0 then zAE (l[k]?.getD []) p else(zAZ l p (max k 1)).1)∧
 (zAZ l p (max (k+1) 1)).2=(if 0<cmpF (zAE (l[k]?.getD []) p) (zAZ l p (max k 1)).2 then zAE (l[k]?.getD []) p else(zAZ l p (max k 1)).2):=by
 rw[show max (k+1) 1=k+1 by omega]
 have e:zAZ l p (k+1)=(if k=0∨cmpF (zAE (l[k]?.getD []) p) (zAZ l p k).1<0 then zAE (l[k]?.getD []) p else(zAZ l p k).1,
  if k=0∨0<cmpF (zAE (l[k]?.getD []) p) (zAZ l p k).2 then zAE (l[k]?.getD []) p else(zAZ l p k).2):=rfl
 rw[e]
 by_cases h0:k=0
 ·subst h0
  have e1:(zAZ l p (max 0 1)).1=zAE (l[0]?.getD []) p:=by rw[show max 0 1=1 by omega,zOS]
  have e2:(zAZ l p (max 0 1)).2=zAE (l[0]?.getD []) p:=by rw[show max 0 1=1 by omega,zOS]
  rw[e1,e2,cmpF_self]
  simp
 ·rw[show max k 1=k by omega]
  simp[h0]
theorem zBD{B:Nat}{a w:World}(h:Below B a w){b:Nat}(hb:B<=b)(v0 v1:Value):Below B a ((w.setCell ⟨b,0,none⟩ v0).setCell ⟨b,1,none⟩ v1):=zAC (zAC h hb 0 v0) hb 1 v1
theorem RatI.other{w:World}{g b:Nat}{r:Rt}(h:RatI w g r)(hn:g≠b)(x y:Value):RatI ((w.setCell ⟨b,0,none⟩ x).setCell ⟨b,1,none⟩ y) g r:=h.keep ((zBT w b x y).block g h.lt hn)
theorem span_step{l:List (List Rt)}{p:Nat}(k:Nat):(zAZ l p (k+1)).1=(if k=0∨cmpF (zAE (l[k]?.getD []) p) (zAZ l p k).1<0 then zAE (l[k]?.getD []) p else(zAZ l p k).1)∧
 (zAZ l p (k+1)).2=(if k=0∨0<cmpF (zAE (l[k]?.getD []) p) (zAZ l p k).2 then zAE (l[k]?.getD []) p else(zAZ l p k).2):=⟨rfl,rfl⟩
theorem dspan_c(w:World)(a:Option Addr)(n cap P:Nat)(L:List (List Rt))(hn:L.length=n)(h0:0<n)(hm:n<=11264)(hP:P<=10)(H:zDQ w a L)(hl:∀k (hk:k<L.length),P<L[k].length)(hf:∀k:Nat,F2 (zAE (L[k]?.getD []) P)):
 Calls Tryz.prog 102 #[.slice a n cap,.int .i64 P] w fun e w'=>e=.returned (.tuple #[ratV (zCL L P).1,ratV (zCL L P).2])∧Below w.heap.size w w':=by
 obtain⟨s,hs⟩:=exq (w.heap.size)
 obtain⟨wz,hwz⟩:=exq ((w.alloc (.cells #[.int .i64 0,.int .i64 0] 29)).alloc (.cells #[.int .i64 0,.int .i64 0] 29))
 have hbz:Below w.heap.size w wz:=by rw[hwz];exact((Below.refl _ _).alloc (Nat.le_refl _) _).alloc (by simp) _
 have qa:RatI wz s (0,0):=by
  rw[hwz,hs]
  exact(RatI.made w (0,0)).keep (Below.heap_alloc _ _ _ (by simp))
 have qb:RatI wz (s+1) (0,0):=by
  have h:=RatI.made (w.alloc (.cells #[.int .i64 0,.int .i64 0] 29)) (0,0)
  rw[World.size_alloc]at h
  rw[hwz,hs];exact h
 have HSW:=hid (show w.heap.size<=s by omega)
 have HSF:=hid (span_f hf)
 have HF:=hid hf
 have HPI:=hid (fun(k:Nat) (hk:k<n)=>show ∃b off ra m c rb ro,a=some ⟨b,off,none⟩∧ra=some ⟨rb,ro,none⟩∧P<m∧m<=maxLen∧∀Y:World,Below w.heap.size w Y->Y.cell? ⟨b,off+k,none⟩=some (.slice ra m c)∧Y.cell? ⟨rb,ro+P*2,none⟩=some (.int .i64 (zAE (L[k]?.getD []) P).1)∧Y.cell? ⟨rb,ro+P*2+1,none⟩=some (.int .i64 (zAE (L[k]?.getD []) P).2)from by
  subst hn
  obtain⟨b,off,ra,m,c,e,hb,g0,g1,g2,g3⟩:=H k hk
  have hlk:=hl k hk
  have hx:zAE (L[k]?.getD []) P=L[k][P]'hlk:=by
   rw[List.getElem?_eq_getElem hk];show(L[k][P]?).getD (0,1)=_;rw[List.getElem?_eq_getElem hlk];rfl
  obtain⟨rb,ro,e2,hrb,y0,y1⟩:=g3 P hlk
  refine⟨b,off,ra,m,c,rb,ro,e,e2,by omega,g2,fun Y hY=>?_⟩
  rw[hx]
  exact⟨(hY.cell (p:=⟨b,_,none⟩) hb).trans g0,(hY.cell (p:=⟨rb,_,none⟩) hrb).trans y0,(hY.cell (p:=⟨rb,_,none⟩) hrb).trans y1⟩)
 have HN0:=hid h0
 have HNM:=hid hm
 have HLN:=hid (show zCL L P=zAZ L P n by unfold zCL;rw[hn])
 have HPP:=hid hP
 have HBZ:=hid hbz
 have QA:=hid qa
 have QB:=hid qb
 clear hn h0 hm hP H hl hf hbz qa qb
 go_enter Tryz.func102,Tryz.ntmps102
 go_wp2_with fail
 rw[<- hs,<- hwz]
 clear hs hwz
 go_loopw [10] (fun i wr=>∃k:Nat,k<=n∧i=.int .i64 k∧RatI wr s (zAZ L P k).1∧RatI wr (s+1) (zAZ L P k).2∧Below w.heap.size w wr) (fun i _=>n-(intOf i).toNat)
 case atStart=>exact⟨0,Nat.zero_le _,rfl,QA.out,QB.out,HBZ.out⟩
 case round=>
  obtain⟨k,hk,rfl,rl,rh,hbk⟩:=hrel
  by_cases hlt:k<n
  ·obtain⟨b_,o_,ra,m,mc,rb,ro,ea,rfl,hPm,hmm,hxk⟩:=HPI.out k hlt
   subst ea
   obtain⟨x,hx⟩:=exq (zAE (L[k]?.getD []) P)
   rw[<- hx]at hxk
   have HXK:=hid hxk
   obtain⟨h0,_,_⟩:=hxk wr hbk
   obtain⟨lo,hlo⟩:=exq ((zAZ L P k).1)
   obtain⟨hi,hhi⟩:=exq ((zAZ L P k).2)
   have HFX:=hid (show F2 x by rw[hx];exact HF.out k)
   have HFL:=hid (show F2 lo by rw[hlo];exact(HSF.out _).1)
   have HFH:=hid (show F2 hi by rw[hhi];exact(HSF.out _).2)
   obtain⟨cl,hcl⟩:=exq (cmpF x lo)
   obtain⟨ch,hch⟩:=exq (cmpF x hi)
   have HCL:=hid (fun(Z:World)=>show Calls Tryz.prog 136 #[.agg #[.int .i64 x.1,.int .i64 x.2],.agg #[.int .i64 lo.1,.int .i64 lo.2]] Z fun e w'=>e=.returned (.int .i64 cl)∧Below Z.heap.size Z w' from by
    rw[hcl];exact zJW Z _ _ _ _ HFX.out.1 HFX.out.2 HFL.out.1 HFL.out.2)
   have HCH:=hid (fun(Z:World)=>show Calls Tryz.prog 136 #[.agg #[.int .i64 x.1,.int .i64 x.2],.agg #[.int .i64 hi.1,.int .i64 hi.2]] Z fun e w'=>e=.returned (.int .i64 ch)∧Below Z.heap.size Z w' from by
    rw[hch];exact zJW Z _ _ _ _ HFX.out.1 HFX.out.2 HFH.out.1 HFH.out.2)
   have HBK:=hid hbk
   have RL:=hid (show RatI wr s lo by rw[hlo];exact rl)
   have RH:=hid (show RatI wr (s+1) hi by rw[hhi];exact rh)
   have HNX0:=hid (span_step (l:=L) (p:=P) k)
   rw[<- hx,<- hlo,<- hhi,<- hcl,<- hch]at HNX0
   have hk9:k<=11264:=by have:=HNM.out;omega
   have hP9:P<=10:=HPP.out
   have i0:(0:Int)<=(k:Int):=by omega
   have i1:(k:Int)<(n:Int):=by omega
   have i2:(0:Int)<=(P:Int):=by omega
   have i3:(P:Int)<(m:Int):=by omega
   clear hxk hx hlo hhi hcl hch rl rh hbk
   by_cases hk0:k=0
   ·subst hk0
    rw[Nat.add_zero]at h0
    have HNX:=hid (show(zAZ L P (0+1)).1=x∧(zAZ L P (0+1)).2=x from by
     obtain⟨g1,g2⟩:=HNX0.out
     rw[g1,g2]
     simp[HN0.out])
    have HSA:=hid (fun(Z:World) (hZ:Below wr.heap.size wr Z)=>show Z.cell? ⟨rb,ro+P*2,none⟩=some (.int .i64 x.1)∧Z.cell? ⟨rb,ro+P*2+1,none⟩=some (.int .i64 x.2)∧Z.cell? ⟨s,0,none⟩=some (.int .i64 lo.1)∧Z.cell? ⟨s,1,none⟩=some (.int .i64 lo.2)∧Z.cell? ⟨s+1,0,none⟩=some (.int .i64 hi.1)∧Z.cell? ⟨s+1,1,none⟩=some (.int .i64 hi.2)from by
     obtain⟨a0,a1,_⟩:=(RL.out.keep (hZ.block _ RL.out.lt)).cells
     obtain⟨b0,b1,_⟩:=(RH.out.keep (hZ.block _ RH.out.lt)).cells
     obtain⟨_,c0,c1⟩:=HXK.out Z (zAA HBK.out hZ)
     exact⟨c0,c1,a0,a1,b0,b1⟩)
    go_upto_region 4 with fail
    refine zAF (fun j' Z=>wAll j'=true->Z.cell? ⟨rb,ro+P*2,none⟩=some (.int .i64 x.1)∧Z.cell? ⟨rb,ro+P*2+1,none⟩=some (.int .i64 x.2)∧Z.cell? ⟨s,0,none⟩=some (.int .i64 lo.1)∧Z.cell? ⟨s,1,none⟩=some (.int .i64 lo.2)∧Z.cell? ⟨s+1,0,none⟩=some (.int .i64 hi.1)∧Z.cell? ⟨s+1,1,none⟩=some (.int .i64 hi.2)) (by kernel_rfl) ?_
    have hbd:Below wr.heap.size wr wr.drew:=(Below.refl _ _).drew
    generalize wr.drew=wdA at hbd⊢
    have HDA:=hid hbd
    clear hbd
    refine AnyT.nx (i:=0) rfl ?_
    go_wp2
    refine⟨fun _=>(HSA.out _ HDA.out),?_⟩
    refine AnyT.nx (i:=1) rfl ?_
    go_wp2
    refine⟨fun _=>(HSA.out _ HDA.out),?_⟩
    refine AnyT.nx (i:=2) rfl ?_
    go_wp2
    refine⟨fun _=>(HSA.out _ HDA.out),?_⟩
    refine AnyT.tN (i:=3) rfl rfl (HSA.out _ HDA.out) ?_;go_frame
    refine AnyT.tN (i:=4) rfl rfl (HSA.out _ HDA.out) ?_;go_frame
    refine AnyT.tN (i:=5) rfl rfl (HSA.out _ HDA.out) ?_;go_frame
    refine AnyT.tN (i:=6) rfl rfl (HSA.out _ HDA.out) ?_;go_frame
    refine AnyT.tN (i:=7) rfl rfl (HSA.out _ HDA.out) ?_;go_frame
    refine AnyT.tN (i:=8) rfl rfl (HSA.out _ HDA.out) ?_;go_frame
    refine AnyT.tN (i:=9) rfl rfl (HSA.out _ HDA.out) ?_;go_frame
    refine AnyT.nx (i:=10) rfl ?_
    go_wp2
    refine⟨fun _=>(HSA.out _ HDA.out),?_⟩
    refine AnyT.done (by kernel_rfl) ?_ _
    have LB:=hid (RL.out.keep (HDA.out.block _ RL.out.lt))
    have RB:=hid (RH.out.keep (HDA.out.block _ RH.out.lt))
    have BB:=hid (show Below w.heap.size w wdA from zAA HBK.out HDA.out)
    obtain⟨d0,d1,d2,d3,d4⟩:=LB.out.cells
    obtain⟨_,c0,c1⟩:=HXK.out _ BB.out
    go_upto_region 6 with fail
    have LC:=hid (RatI.set (p:=x) LB.out)
    have RC:=hid (RB.out.other (b:=s) (by omega) (.int .i64 x.1) (.int .i64 x.2))
    have BC:=hid (zBD BB.out HSW.out (.int .i64 x.1) (.int .i64 x.2))
    obtain⟨wb,hwb⟩:=exq ((wdA.setCell ⟨s,0,none⟩ (.int .i64 x.1)).setCell ⟨s,1,none⟩ (.int .i64 x.2))
    rw[<- hwb]at LC RC BC⊢
    clear hwb d0 d1 d2 d3 d4 c0 c1 LB RB BB
    have HSB:=hid (fun(Z:World) (hZ:Below wb.heap.size wb Z)=>show Z.cell? ⟨rb,ro+P*2,none⟩=some (.int .i64 x.1)∧Z.cell? ⟨rb,ro+P*2+1,none⟩=some (.int .i64 x.2)∧Z.cell? ⟨s,0,none⟩=some (.int .i64 x.1)∧Z.cell? ⟨s,1,none⟩=some (.int .i64 x.2)∧Z.cell? ⟨s+1,0,none⟩=some (.int .i64 hi.1)∧Z.cell? ⟨s+1,1,none⟩=some (.int .i64 hi.2)from by
     obtain⟨a0,a1,_⟩:=(LC.out.keep (hZ.block _ LC.out.lt)).cells
     obtain⟨b0,b1,_⟩:=(RC.out.keep (hZ.block _ RC.out.lt)).cells
     obtain⟨_,c0,c1⟩:=HXK.out Z (zAA BC.out hZ)
     exact⟨c0,c1,a0,a1,b0,b1⟩)
    refine zAF (fun j' Z=>wAll j'=true->Z.cell? ⟨rb,ro+P*2,none⟩=some (.int .i64 x.1)∧Z.cell? ⟨rb,ro+P*2+1,none⟩=some (.int .i64 x.2)∧Z.cell? ⟨s,0,none⟩=some (.int .i64 x.1)∧Z.cell? ⟨s,1,none⟩=some (.int .i64 x.2)∧Z.cell? ⟨s+1,0,none⟩=some (.int .i64 hi.1)∧Z.cell? ⟨s+1,1,none⟩=some (.int .i64 hi.2)) (by kernel_rfl) ?_
    have hbd:Below wb.heap.size wb wb.drew:=(Below.refl _ _).drew
    generalize wb.drew=wdB at hbd⊢
    have HDB:=hid hbd
    clear hbd
    refine AnyT.nx (i:=0) rfl ?_
    go_wp2
    refine⟨fun _=>(HSB.out _ HDB.out),?_⟩
    refine AnyT.nx (i:=1) rfl ?_
    go_wp2
    refine⟨fun _=>(HSB.out _ HDB.out),?_⟩
    refine AnyT.nx (i:=2) rfl ?_
    go_wp2
    refine⟨fun _=>(HSB.out _ HDB.out),?_⟩
    refine AnyT.tN (i:=3) rfl rfl (HSB.out _ HDB.out) ?_;go_frame
    refine AnyT.tN (i:=4) rfl rfl (HSB.out _ HDB.out) ?_;go_frame
    refine AnyT.tN (i:=5) rfl rfl (HSB.out _ HDB.out) ?_;go_frame
    refine AnyT.tN (i:=6) rfl rfl (HSB.out _ HDB.out) ?_;go_frame
    refine AnyT.tN (i:=7) rfl rfl (HSB.out _ HDB.out) ?_;go_frame
    refine AnyT.tN (i:=8) rfl rfl (HSB.out _ HDB.out) ?_;go_frame
    refine AnyT.tN (i:=9) rfl rfl (HSB.out _ HDB.out) ?_;go_frame
    refine AnyT.nx (i:=10) rfl ?_
    go_wp2
    refine⟨fun _=>(HSB.out _ HDB.out),?_⟩
    refine AnyT.done (by kernel_rfl) ?_ _
    have LD:=hid (LC.out.keep (HDB.out.block _ LC.out.lt))
    have RD:=hid (RC.out.keep (HDB.out.block _ RC.out.lt))
    have BD:=hid (show Below w.heap.size w wdB from zAA BC.out HDB.out)
    obtain⟨d0,d1,d2,d3,d4⟩:=RD.out.cells
    obtain⟨_,c0,c1⟩:=HXK.out _ BD.out
    go_wp2
    have RE:=hid (RatI.set (p:=x) RD.out)
    have LE:=hid (LD.out.other (b:=s+1) (by omega) (.int .i64 x.1) (.int .i64 x.2))
    have BE:=hid (zBD BD.out (show w.heap.size<=s+1 by have:=HSW.out;omega) (.int .i64 x.1) (.int .i64 x.2))
    exact⟨⟨0+1,by omega,by first|rfl|go_num|simp,by rw[HNX.out.1];exact LE.out,by rw[HNX.out.2];exact RE.out,BE.out⟩,by simp[intOf];try omega⟩
   ·have hkz:¬(k:Int)=0:=by omega
    have hke:((k:Int)==0)=false:=by simpa using hk0
    by_cases hcl:cl<0
    all_goals
     have HSA:=hid (fun(Z:World) (hZ:Below wr.heap.size wr Z)=>show Z.cell? ⟨rb,ro+P*2,none⟩=some (.int .i64 x.1)∧Z.cell? ⟨rb,ro+P*2+1,none⟩=some (.int .i64 x.2)∧Z.cell? ⟨s,0,none⟩=some (.int .i64 lo.1)∧Z.cell? ⟨s,1,none⟩=some (.int .i64 lo.2)∧Z.cell? ⟨s+1,0,none⟩=some (.int .i64 hi.1)∧Z.cell? ⟨s+1,1,none⟩=some (.int .i64 hi.2)from by
      obtain⟨a0,a1,_⟩:=(RL.out.keep (hZ.block _ RL.out.lt)).cells
      obtain⟨b0,b1,_⟩:=(RH.out.keep (hZ.block _ RH.out.lt)).cells
      obtain⟨_,c0,c1⟩:=HXK.out Z (zAA HBK.out hZ)
      exact⟨c0,c1,a0,a1,b0,b1⟩)
     go_upto_region 4 with fail
     refine zAF (fun j' Z=>wAll j'=true->Z.cell? ⟨rb,ro+P*2,none⟩=some (.int .i64 x.1)∧Z.cell? ⟨rb,ro+P*2+1,none⟩=some (.int .i64 x.2)∧Z.cell? ⟨s,0,none⟩=some (.int .i64 lo.1)∧Z.cell? ⟨s,1,none⟩=some (.int .i64 lo.2)∧Z.cell? ⟨s+1,0,none⟩=some (.int .i64 hi.1)∧Z.cell? ⟨s+1,1,none⟩=some (.int .i64 hi.2)) (by kernel_rfl) ?_
     have hbd:Below wr.heap.size wr wr.drew:=(Below.refl _ _).drew
     generalize wr.drew=wdA at hbd⊢
     have HDA:=hid hbd
     clear hbd
     refine AnyT.nx (i:=0) rfl ?_
     go_wp2
     refine⟨fun _=>(HSA.out _ HDA.out),?_⟩
     refine AnyT.nx (i:=1) rfl ?_
     go_wp2
     refine⟨fun _=>(HSA.out _ HDA.out),?_⟩
     refine AnyT.nx (i:=2) rfl ?_
     go_wp2
     refine⟨fun _=>(HSA.out _ HDA.out),?_⟩
     refine AnyT.tD (i:=3) (v:=.slice (some ⟨rb,ro,none⟩) m mc) rfl rfl (by rintro w' ⟨q0,q1,q2,q3,q4,q5⟩;go_simp) (HSA.out _ HDA.out) ?_;go_frame
     refine AnyT.tD (i:=4) (v:=.int .i64 P) rfl rfl (by rintro w' ⟨q0,q1,q2,q3,q4,q5⟩;go_simp) (HSA.out _ HDA.out) ?_;go_frame
     refine AnyT.tD (i:=5) (v:=.pointer (some ⟨rb,ro+P*2,none⟩)) rfl rfl (by rintro w' ⟨q0,q1,q2,q3,q4,q5⟩;go_simp) (HSA.out _ HDA.out) ?_;go_frame
     refine AnyT.tD (i:=6) (v:=.agg #[.int .i64 x.1,.int .i64 x.2]) rfl rfl (by rintro w' ⟨q0,q1,q2,q3,q4,q5⟩;go_simp) (HSA.out _ HDA.out) ?_;go_frame
     refine AnyT.tD (i:=7) (v:=.agg #[.int .i64 lo.1,.int .i64 lo.2]) rfl rfl (by rintro w' ⟨q0,q1,q2,q3,q4,q5⟩;go_simp) (HSA.out _ HDA.out) ?_;go_frame
     refine AnyT.nx (i:=8) rfl ?_
     go_wp2_with (go_at_call 136;refine(HCL.out _).mono ?_;rintro e wcA ⟨rfl,hbc⟩;refine Stop.of ?_)
     refine Stop.go ?_
     have HEA:=hid (zAA HDA.out hbc)
     clear hbc
     go_wp2
     refine⟨fun _=>HSA.out _ HEA.out,?_⟩
     refine AnyT.nx (i:=9) rfl ?_
     go_wp2
     refine⟨fun _=>(HSA.out _ HEA.out),?_⟩
     refine AnyT.nx (i:=10) rfl ?_
     go_wp2
     refine⟨fun _=>(HSA.out _ HEA.out),?_⟩
     refine AnyT.done (by kernel_rfl) ?_ _
     have LB:=hid (RL.out.keep (HEA.out.block _ RL.out.lt))
     have RB:=hid (RH.out.keep (HEA.out.block _ RH.out.lt))
     have BB:=hid (show Below w.heap.size w wcA from zAA HBK.out HEA.out)
     first
      | (have hq:cl<0:=hcl
         obtain⟨d0,d1,d2,d3,d4⟩:=LB.out.cells
         obtain⟨_,c0,c1⟩:=HXK.out _ BB.out
         go_upto_region 6 with fail
         have LC:=hid (RatI.set (p:=x) LB.out)
         have RC:=hid (RB.out.other (b:=s) (by omega) (.int .i64 x.1) (.int .i64 x.2))
         have BC:=hid (zBD BB.out HSW.out (.int .i64 x.1) (.int .i64 x.2))
         obtain⟨wb,hwb⟩:=exq ((wcA.setCell ⟨s,0,none⟩ (.int .i64 x.1)).setCell ⟨s,1,none⟩ (.int .i64 x.2))
         rw[<- hwb]at LC RC BC⊢
         obtain⟨l2,hl2⟩:=exq (x)
         have LC:=hid (show RatI wb s l2 by rw[hl2];exact LC.out)
         have HN1:=hid (show(zAZ L P (k+1)).1=l2 from by rw[HNX0.out.1,hl2];simp[hk0,hq])
         clear hwb d0 d1 d2 d3 d4 c0 c1 LB RB BB hq hl2)
      | (have hq:¬cl<0:=by omega
         go_upto_region 6 with fail
         have LC:=hid LB.out
         have RC:=hid RB.out
         have BC:=hid BB.out
         obtain⟨wb,hwb⟩:=exq (wcA)
         subst hwb
         obtain⟨l2,hl2⟩:=exq (lo)
         have LC:=hid (show RatI wb s l2 by rw[hl2];exact LC.out)
         have HN1:=hid (show(zAZ L P (k+1)).1=l2 from by rw[HNX0.out.1,hl2];simp[hk0,hq])
         clear LB RB BB hq hl2)
     have HSB:=hid (fun(Z:World) (hZ:Below wb.heap.size wb Z)=>show Z.cell? ⟨rb,ro+P*2,none⟩=some (.int .i64 x.1)∧Z.cell? ⟨rb,ro+P*2+1,none⟩=some (.int .i64 x.2)∧Z.cell? ⟨s,0,none⟩=some (.int .i64 l2.1)∧Z.cell? ⟨s,1,none⟩=some (.int .i64 l2.2)∧Z.cell? ⟨s+1,0,none⟩=some (.int .i64 hi.1)∧Z.cell? ⟨s+1,1,none⟩=some (.int .i64 hi.2)from by
      obtain⟨a0,a1,_⟩:=(LC.out.keep (hZ.block _ LC.out.lt)).cells
      obtain⟨b0,b1,_⟩:=(RC.out.keep (hZ.block _ RC.out.lt)).cells
      obtain⟨_,c0,c1⟩:=HXK.out Z (zAA BC.out hZ)
      exact⟨c0,c1,a0,a1,b0,b1⟩)
     by_cases hch:0<ch
     all_goals
      refine zAF (fun j' Z=>wAll j'=true->Z.cell? ⟨rb,ro+P*2,none⟩=some (.int .i64 x.1)∧Z.cell? ⟨rb,ro+P*2+1,none⟩=some (.int .i64 x.2)∧Z.cell? ⟨s,0,none⟩=some (.int .i64 l2.1)∧Z.cell? ⟨s,1,none⟩=some (.int .i64 l2.2)∧Z.cell? ⟨s+1,0,none⟩=some (.int .i64 hi.1)∧Z.cell? ⟨s+1,1,none⟩=some (.int .i64 hi.2)) (by kernel_rfl) ?_
      have hbd:Below wb.heap.size wb wb.drew:=(Below.refl _ _).drew
      generalize wb.drew=wdB at hbd⊢
      have HDB:=hid hbd
      clear hbd
      refine AnyT.nx (i:=0) rfl ?_
      go_wp2
      refine⟨fun _=>(HSB.out _ HDB.out),?_⟩
      refine AnyT.nx (i:=1) rfl ?_
      go_wp2
      refine⟨fun _=>(HSB.out _ HDB.out),?_⟩
      refine AnyT.nx (i:=2) rfl ?_
      go_wp2
      refine⟨fun _=>(HSB.out _ HDB.out),?_⟩
      refine AnyT.tD (i:=3) (v:=.slice (some ⟨rb,ro,none⟩) m mc) rfl rfl (by rintro w' ⟨q0,q1,q2,q3,q4,q5⟩;go_simp) (HSB.out _ HDB.out) ?_;go_frame
      refine AnyT.tD (i:=4) (v:=.int .i64 P) rfl rfl (by rintro w' ⟨q0,q1,q2,q3,q4,q5⟩;go_simp) (HSB.out _ HDB.out) ?_;go_frame
      refine AnyT.tD (i:=5) (v:=.pointer (some ⟨rb,ro+P*2,none⟩)) rfl rfl (by rintro w' ⟨q0,q1,q2,q3,q4,q5⟩;go_simp) (HSB.out _ HDB.out) ?_;go_frame
      refine AnyT.tD (i:=6) (v:=.agg #[.int .i64 x.1,.int .i64 x.2]) rfl rfl (by rintro w' ⟨q0,q1,q2,q3,q4,q5⟩;go_simp) (HSB.out _ HDB.out) ?_;go_frame
      refine AnyT.tD (i:=7) (v:=.agg #[.int .i64 hi.1,.int .i64 hi.2]) rfl rfl (by rintro w' ⟨q0,q1,q2,q3,q4,q5⟩;go_simp) (HSB.out _ HDB.out) ?_;go_frame
      refine AnyT.nx (i:=8) rfl ?_
      go_wp2_with (go_at_call 136;refine(HCH.out _).mono ?_;rintro e wcB ⟨rfl,hbc⟩;refine Stop.of ?_)
      refine Stop.go ?_
      have HEB:=hid (zAA HDB.out hbc)
      clear hbc
      go_wp2
      refine⟨fun _=>HSB.out _ HEB.out,?_⟩
      refine AnyT.nx (i:=9) rfl ?_
      go_wp2
      refine⟨fun _=>(HSB.out _ HEB.out),?_⟩
      refine AnyT.nx (i:=10) rfl ?_
      go_wp2
      refine⟨fun _=>(HSB.out _ HEB.out),?_⟩
      refine AnyT.done (by kernel_rfl) ?_ _
      have LD:=hid (LC.out.keep (HEB.out.block _ LC.out.lt))
      have RD:=hid (RC.out.keep (HEB.out.block _ RC.out.lt))
      have BD:=hid (show Below w.heap.size w wcB from zAA BC.out HEB.out)
      first
       | (have hq:0<ch:=hch
          have HN2:=hid (show(zAZ L P (k+1)).2=x from by rw[HNX0.out.2];simp[hk0,hq])
          clear hq
          obtain⟨d0,d1,d2,d3,d4⟩:=RD.out.cells
          obtain⟨_,c0,c1⟩:=HXK.out _ BD.out
          go_wp2
          have RE:=hid (RatI.set (p:=x) RD.out)
          have LE:=hid (LD.out.other (b:=s+1) (by omega) (.int .i64 x.1) (.int .i64 x.2))
          have BE:=hid (zBD BD.out (show w.heap.size<=s+1 by have:=HSW.out;omega) (.int .i64 x.1) (.int .i64 x.2))
          exact⟨⟨k+1,by omega,by first|rfl|go_num|simp,by rw[HN1.out];exact LE.out,by rw[HN2.out];exact RE.out,BE.out⟩,by simp[intOf];try omega⟩)
       | (have hq:¬0<ch:=by omega
          have HN2:=hid (show(zAZ L P (k+1)).2=hi from by rw[HNX0.out.2];simp[hk0,hq])
          clear hq
          go_wp2
          exact⟨⟨k+1,by omega,by first|rfl|go_num|simp,by rw[HN1.out];exact LD.out,by rw[HN2.out];exact RD.out,BD.out⟩,by simp[intOf];try omega⟩)
  ·obtain rfl:k=n:=by omega
   have HBK:=hid hbk
   have RL:=hid rl
   have RH:=hid rh
   obtain⟨lo,hlo⟩:=exq ((zAZ L P k).1)
   obtain⟨hi,hhi⟩:=exq ((zAZ L P k).2)
   have HRET:=hid (show ratV (zCL L P).1=ratV lo∧ratV (zCL L P).2=ratV hi by rw[HLN.out,hlo,hhi];exact⟨rfl,rfl⟩)
   rw[<- hlo]at RL
   rw[<- hhi]at RH
   have i1:¬((k:Int)<(k:Int)):=by omega
   clear hbk rl rh hlo hhi
   go_wp2
   refine zAF (fun j X=>wAll j=true->X.cell? ⟨s,0,none⟩=some (.int .i64 lo.1)∧X.cell? ⟨s,1,none⟩=some (.int .i64 lo.2)∧X.cell? ⟨s+1,0,none⟩=some (.int .i64 hi.1)∧X.cell? ⟨s+1,1,none⟩=some (.int .i64 hi.2)) (by kernel_rfl) ?_
   have hbd:Below wr.heap.size wr wr.drew:=(Below.refl _ _).drew
   have G2:=hid (RL.out.keep (hbd.block _ RL.out.lt))
   have G3:=hid (RH.out.keep (hbd.block _ RH.out.lt))
   have KD:=hid (HBK.out.drew)
   generalize wr.drew=wd at G2 G3 KD⊢
   obtain⟨a0,a1,a2,a3,a4⟩:=G2.out.cells
   obtain⟨b0,b1,b2,b3,b4⟩:=G3.out.cells
   have hS:wd.cell? ⟨s,0,none⟩=some (.int .i64 lo.1)∧wd.cell? ⟨s,1,none⟩=some (.int .i64 lo.2)∧wd.cell? ⟨s+1,0,none⟩=some (.int .i64 hi.1)∧wd.cell? ⟨s+1,1,none⟩=some (.int .i64 hi.2):=⟨a0,a1,b0,b1⟩
   refine AnyT.tD (i:=0) (v:=.agg #[.int .i64 lo.1,.int .i64 lo.2]) rfl rfl (by rintro w' ⟨x1,x2,x3,x4⟩;go_simp) hS ?_;go_frame
   refine AnyT.tD (i:=1) (v:=.agg #[.int .i64 hi.1,.int .i64 hi.2]) rfl rfl (by rintro w' ⟨x1,x2,x3,x4⟩;go_simp) hS ?_;go_frame
   have M2:=hid (RatI.set (p:=lo) G2.out)
   have M3:=hid (G3.out.other (b:=s) (by omega) (.int .i64 lo.1) (.int .i64 lo.2))
   refine AnyT.nx (i:=2) rfl ?_
   go_wp2
   clear a0 a1 a2 a3 a4 b0 b1 b2 b3 b4 hS
   obtain⟨a0,a1,a2,a3,a4⟩:=M2.out.cells
   obtain⟨b0,b1,b2,b3,b4⟩:=M3.out.cells
   refine⟨fun _=>⟨a0,a1,b0,b1⟩,?_⟩
   have N3:=hid (RatI.set (p:=hi) M3.out)
   have N2:=hid (M2.out.other (b:=s+1) (by omega) (.int .i64 hi.1) (.int .i64 hi.2))
   have KN:=hid (zBD (zBD KD.out HSW.out (.int .i64 lo.1) (.int .i64 lo.2)) (show w.heap.size<=s+1 by have:=HSW.out;omega) (.int .i64 hi.1) (.int .i64 hi.2))
   refine AnyT.nx (i:=3) rfl ?_
   go_wp2
   clear a0 a1 a2 a3 a4 b0 b1 b2 b3 b4
   obtain⟨a0,a1,a2,a3,a4⟩:=N2.out.cells
   obtain⟨b0,b1,b2,b3,b4⟩:=N3.out.cells
   refine⟨fun _=>⟨a0,a1,b0,b1⟩,?_⟩
   refine AnyT.done (by kernel_rfl) ?_ _
   go_wp2
   change bodyPost _ _ _ _ _ ((((wd.setCell ⟨s,0,none⟩ (.int .i64 lo.1)).setCell ⟨s,1,none⟩ (.int .i64 lo.2)).setCell ⟨s+1,0,none⟩ (.int .i64 hi.1)).setCell ⟨s+1,1,none⟩ (.int .i64 hi.2))
   generalize (((wd.setCell ⟨s,0,none⟩ (.int .i64 lo.1)).setCell ⟨s,1,none⟩ (.int .i64 lo.2)).setCell ⟨s+1,0,none⟩ (.int .i64 hi.1)).setCell ⟨s+1,1,none⟩ (.int .i64 hi.2)=WF at*
   refine bodyPost_ret (v:=.tuple #[.agg #[.int .i64 lo.1,.int .i64 lo.2],.agg #[.int .i64 hi.1,.int .i64 hi.2]]) ?_ rfl ⟨by rw[HRET.out.1,HRET.out.2];rfl,KN.out⟩
   simp[results,Tryz.results102,go_sem,a0,a1,a2,a3,a4,b0,b1,b2,b3,b4]
end
section
open Go.RowKit
theorem r5ends_c(w:World)(a:Option Addr)(n cap P:Nat)(L:List (List Rt))(hn:L.length=n)(h0:0<n)(hm:n<=11264)(hP:P<=10)(H:zDQ w a L)(hl:∀k (hk:k<L.length),P<L[k].length)(hf:∀k:Nat,F2 (zAE (L[k]?.getD []) P)):
 Calls Tryz.prog 103 #[.slice a n cap,.int .i64 P] w fun e w'=>e=.returned (.tuple #[ratV (zCL L P).1,ratV (zCL L P).2])∧Below w.heap.size w w':=by
 obtain⟨s,hs⟩:=exq (w.heap.size)
 obtain⟨wz,hwz⟩:=exq ((w.alloc (.cells #[.int .i64 0,.int .i64 0] 29)).alloc (.cells #[.int .i64 0,.int .i64 0] 29))
 have hbz:Below w.heap.size w wz:=by rw[hwz];exact((Below.refl _ _).alloc (Nat.le_refl _) _).alloc (by simp) _
 have qa:RatI wz s (0,0):=by
  rw[hwz,hs]
  exact(RatI.made w (0,0)).keep (Below.heap_alloc _ _ _ (by simp))
 have qb:RatI wz (s+1) (0,0):=by
  have h:=RatI.made (w.alloc (.cells #[.int .i64 0,.int .i64 0] 29)) (0,0)
  rw[World.size_alloc]at h
  rw[hwz,hs];exact h
 have HSW:=hid (show w.heap.size<=s by omega)
 have HSF:=hid (span_f hf)
 have HF:=hid hf
 have HPI:=hid (fun(k:Nat) (hk:k<n)=>show ∃b off ra m c rb ro,a=some ⟨b,off,none⟩∧ra=some ⟨rb,ro,none⟩∧P<m∧m<=maxLen∧∀Y:World,Below w.heap.size w Y->Y.cell? ⟨b,off+k,none⟩=some (.slice ra m c)∧Y.cell? ⟨rb,ro+P*2,none⟩=some (.int .i64 (zAE (L[k]?.getD []) P).1)∧Y.cell? ⟨rb,ro+P*2+1,none⟩=some (.int .i64 (zAE (L[k]?.getD []) P).2)from by
  subst hn
  obtain⟨b,off,ra,m,c,e,hb,g0,g1,g2,g3⟩:=H k hk
  have hlk:=hl k hk
  have hx:zAE (L[k]?.getD []) P=L[k][P]'hlk:=by
   rw[List.getElem?_eq_getElem hk];show(L[k][P]?).getD (0,1)=_;rw[List.getElem?_eq_getElem hlk];rfl
  obtain⟨rb,ro,e2,hrb,y0,y1⟩:=g3 P hlk
  refine⟨b,off,ra,m,c,rb,ro,e,e2,by omega,g2,fun Y hY=>?_⟩
  rw[hx]
  exact⟨(hY.cell (p:=⟨b,_,none⟩) hb).trans g0,(hY.cell (p:=⟨rb,_,none⟩) hrb).trans y0,(hY.cell (p:=⟨rb,_,none⟩) hrb).trans y1⟩)
 have HN0:=hid h0
 have HNM:=hid hm
 have HLN:=hid (show zCL L P=zAZ L P n by unfold zCL;rw[hn])
 have HPP:=hid hP
 have HBZ:=hid hbz
 have QA:=hid qa
 have QB:=hid qb
 clear hn h0 hm hP H hl hf hbz qa qb
 go_enter Tryz.func103,Tryz.ntmps103
 obtain⟨b_,o_,ra,m,mc,rb,ro,rfl,rfl,hPm,hmm,hxk⟩:=HPI.out 0 HN0.out
 obtain⟨x,hx⟩:=exq (zAE (L[0]?.getD []) P)
 rw[<- hx]at hxk
 have HE1:=hid (show(zAZ L P (max 0 1)).1=x∧(zAZ L P (max 0 1)).2=x from by
  rw[hx];rw[show max 0 1=1 by omega,zOS];exact⟨rfl,rfl⟩)
 have HXK:=hid hxk
 have hP9:P<=10:=HPP.out
 have i2:(0:Int)<=(P:Int):=by omega
 have i3:(P:Int)<(m:Int):=by omega
 have i4:(0:Int)<(n:Int):=by have:=HN0.out;omega
 have i5:¬n=0:=by have:=HN0.out;omega
 clear hx hxk
 go_upto_region 1 with fail
 rw[<- hs,<- hwz]
 clear hs hwz
 refine zAF (fun j' Z=>(wAll j'=true->Z.cell? ⟨b_,o_,none⟩=some (.slice (some ⟨rb,ro,none⟩) m mc)∧Z.cell? ⟨rb,ro+P*2,none⟩=some (.int .i64 x.1)∧Z.cell? ⟨rb,ro+P*2+1,none⟩=some (.int .i64 x.2))) (by kernel_rfl) ?_
 have HS:=hid (fun(Z:World) (hZ:Below w.heap.size w Z)=>show Z.cell? ⟨b_,o_,none⟩=some (.slice (some ⟨rb,ro,none⟩) m mc)∧Z.cell? ⟨rb,ro+P*2,none⟩=some (.int .i64 x.1)∧Z.cell? ⟨rb,ro+P*2+1,none⟩=some (.int .i64 x.2)from by
  have:=HXK.out Z hZ
  rw[Nat.add_zero]at this;exact this)
 have hbd:Below wz.heap.size wz wz.drew:=(Below.refl _ _).drew
 have G2:=hid (QA.out.keep (hbd.block _ QA.out.lt))
 have G3:=hid (QB.out.keep (hbd.block _ QB.out.lt))
 have KD:=hid (HBZ.out.drew)
 generalize wz.drew=wd at G2 G3 KD⊢
 clear hbd
 refine AnyT.tD (i:=0) (v:=.slice (some ⟨b_,o_,none⟩) n cap) rfl rfl (by rintro w' ⟨q0,q1,q2⟩;go_simp) (HS.out _ KD.out) ?_;go_frame
 refine AnyT.tD (i:=1) (v:=.pointer (some ⟨b_,o_,none⟩)) rfl rfl (by rintro w' ⟨q0,q1,q2⟩;go_simp) (HS.out _ KD.out) ?_;go_frame
 refine AnyT.tD (i:=2) (v:=.slice (some ⟨rb,ro,none⟩) m mc) rfl rfl (by rintro w' ⟨q0,q1,q2⟩;go_simp) (HS.out _ KD.out) ?_;go_frame
 refine AnyT.tD (i:=3) (v:=.int .i64 P) rfl rfl (by rintro w' ⟨q0,q1,q2⟩;go_simp) (HS.out _ KD.out) ?_;go_frame
 refine AnyT.tD (i:=4) (v:=.pointer (some ⟨rb,ro+P*2,none⟩)) rfl rfl (by rintro w' ⟨q0,q1,q2⟩;go_simp) (HS.out _ KD.out) ?_;go_frame
 refine AnyT.tD (i:=5) (v:=.agg #[.int .i64 x.1,.int .i64 x.2]) rfl rfl (by rintro w' ⟨q0,q1,q2⟩;go_simp) (HS.out _ KD.out) ?_;go_frame
 refine AnyT.tD (i:=6) (v:=.slice (some ⟨b_,o_,none⟩) n cap) rfl rfl (by rintro w' ⟨q0,q1,q2⟩;go_simp) (HS.out _ KD.out) ?_;go_frame
 refine AnyT.tD (i:=7) (v:=.pointer (some ⟨b_,o_,none⟩)) rfl rfl (by rintro w' ⟨q0,q1,q2⟩;go_simp) (HS.out _ KD.out) ?_;go_frame
 refine AnyT.tD (i:=8) (v:=.slice (some ⟨rb,ro,none⟩) m mc) rfl rfl (by rintro w' ⟨q0,q1,q2⟩;go_simp) (HS.out _ KD.out) ?_;go_frame
 refine AnyT.tD (i:=9) (v:=.int .i64 P) rfl rfl (by rintro w' ⟨q0,q1,q2⟩;go_simp) (HS.out _ KD.out) ?_;go_frame
 refine AnyT.tD (i:=10) (v:=.pointer (some ⟨rb,ro+P*2,none⟩)) rfl rfl (by rintro w' ⟨q0,q1,q2⟩;go_simp) (HS.out _ KD.out) ?_;go_frame
 refine AnyT.tD (i:=11) (v:=.agg #[.int .i64 x.1,.int .i64 x.2]) rfl rfl (by rintro w' ⟨q0,q1,q2⟩;go_simp) (HS.out _ KD.out) ?_;go_frame
 obtain⟨a0,a1,a2,a3,a4⟩:=G2.out.cells
 have M2:=hid (RatI.set (p:=x) G2.out)
 have M3:=hid (G3.out.other (b:=s) (by omega) (.int .i64 x.1) (.int .i64 x.2))
 have KM:=hid (zBD KD.out HSW.out (.int .i64 x.1) (.int .i64 x.2))
 refine AnyT.nx (i:=12) rfl ?_
 go_wp2
 clear a0 a1 a2 a3 a4
 obtain⟨b0,b1,b2,b3,b4⟩:=M3.out.cells
 have N3:=hid (RatI.set (p:=x) M3.out)
 have N2:=hid (M2.out.other (b:=s+1) (by omega) (.int .i64 x.1) (.int .i64 x.2))
 have KN:=hid (zBD KM.out (show w.heap.size<=s+1 by have:=HSW.out;omega) (.int .i64 x.1) (.int .i64 x.2))
 refine⟨fun _=>HS.out _ KM.out,?_⟩
 refine AnyT.nx (i:=13) rfl ?_
 go_wp2
 refine⟨fun _=>HS.out _ KN.out,?_⟩
 refine AnyT.done (by kernel_rfl) ?_ _
 go_wp2_with fail
 obtain⟨wy,hwy⟩:=exq ((((wd.setCell ⟨s,0,none⟩ (.int .i64 x.1)).setCell ⟨s,1,none⟩ (.int .i64 x.2)).setCell ⟨s+1,0,none⟩ (.int .i64 x.1)).setCell ⟨s+1,1,none⟩ (.int .i64 x.2))
 rw[<- hwy]at N2 N3 KN⊢
 clear hwy M2 M3 KM G2 G3 KD b0 b1 b2 b3 b4
 go_loopw [22] (fun i wr=>∃k:Nat,k<=n∧i=.int .i64 k∧RatI wr s (zAZ L P (max k 1)).1∧RatI wr (s+1) (zAZ L P (max k 1)).2∧Below w.heap.size w wr) (fun i _=>n-(intOf i).toNat)
 case atStart=>exact⟨0,Nat.zero_le _,rfl,by rw[HE1.out.1];exact N2.out,by rw[HE1.out.2];exact N3.out,KN.out⟩
 case round=>
  obtain⟨k,hk,rfl,rl,rh,hbk⟩:=hrel
  by_cases hlt:k<n
  ·obtain⟨b_,o_,ra,m,mc,rb,ro,ea,rfl,hPm,hmm,hxk⟩:=HPI.out k hlt
   cases ea
   obtain⟨x,hx⟩:=exq (zAE (L[k]?.getD []) P)
   rw[<- hx]at hxk
   have HXK:=hid hxk
   obtain⟨h0,_,_⟩:=hxk wr hbk
   obtain⟨lo,hlo⟩:=exq ((zAZ L P (max k 1)).1)
   obtain⟨hi,hhi⟩:=exq ((zAZ L P (max k 1)).2)
   have HFX:=hid (show F2 x by rw[hx];exact HF.out k)
   have HFL:=hid (show F2 lo by rw[hlo];exact(HSF.out _).1)
   have HFH:=hid (show F2 hi by rw[hhi];exact(HSF.out _).2)
   obtain⟨cl,hcl⟩:=exq (cmpF x lo)
   obtain⟨ch,hch⟩:=exq (cmpF x hi)
   have HCL:=hid (fun(Z:World)=>show Calls Tryz.prog 31 #[.agg #[.int .i64 x.1,.int .i64 x.2],.agg #[.int .i64 lo.1,.int .i64 lo.2]] Z fun e w'=>e=.returned (.int .i64 cl)∧Below Z.heap.size Z w' from by
    rw[hcl];exact zNP _ Z _ _ _ _ HFX.out.1 HFX.out.2 HFL.out.1 HFL.out.2 (Nat.le_refl _))
   have HCH:=hid (fun(Z:World)=>show Calls Tryz.prog 31 #[.agg #[.int .i64 x.1,.int .i64 x.2],.agg #[.int .i64 hi.1,.int .i64 hi.2]] Z fun e w'=>e=.returned (.int .i64 ch)∧Below Z.heap.size Z w' from by
    rw[hch];exact zNP _ Z _ _ _ _ HFX.out.1 HFX.out.2 HFH.out.1 HFH.out.2 (Nat.le_refl _))
   have HBK:=hid hbk
   have RL:=hid (show RatI wr s lo by rw[hlo];exact rl)
   have RH:=hid (show RatI wr (s+1) hi by rw[hhi];exact rh)
   have HNX0:=hid (ends_step (l:=L) (p:=P) k)
   rw[<- hx,<- hlo,<- hhi,<- hcl,<- hch]at HNX0
   have hk9:k<=11264:=by have:=HNM.out;omega
   have hP9:P<=10:=HPP.out
   have i0:(0:Int)<=(k:Int):=by omega
   have i1:(k:Int)<(n:Int):=by omega
   have i2:(0:Int)<=(P:Int):=by omega
   have i3:(P:Int)<(m:Int):=by omega
   clear hxk hx hlo hhi hcl hch rl rh hbk
   by_cases hcl:cl<0
   all_goals
    have HSA:=hid (fun(Z:World) (hZ:Below wr.heap.size wr Z)=>show Z.cell? ⟨rb,ro+P*2,none⟩=some (.int .i64 x.1)∧Z.cell? ⟨rb,ro+P*2+1,none⟩=some (.int .i64 x.2)∧Z.cell? ⟨s,0,none⟩=some (.int .i64 lo.1)∧Z.cell? ⟨s,1,none⟩=some (.int .i64 lo.2)∧Z.cell? ⟨s+1,0,none⟩=some (.int .i64 hi.1)∧Z.cell? ⟨s+1,1,none⟩=some (.int .i64 hi.2)from by
     obtain⟨a0,a1,_⟩:=(RL.out.keep (hZ.block _ RL.out.lt)).cells
     obtain⟨b0,b1,_⟩:=(RH.out.keep (hZ.block _ RH.out.lt)).cells
     obtain⟨_,c0,c1⟩:=HXK.out Z (zAA HBK.out hZ)
     exact⟨c0,c1,a0,a1,b0,b1⟩)
    go_upto_region 5 with fail
    refine zAF (fun j' Z=>wAll j'=true->Z.cell? ⟨rb,ro+P*2,none⟩=some (.int .i64 x.1)∧Z.cell? ⟨rb,ro+P*2+1,none⟩=some (.int .i64 x.2)∧Z.cell? ⟨s,0,none⟩=some (.int .i64 lo.1)∧Z.cell? ⟨s,1,none⟩=some (.int .i64 lo.2)∧Z.cell? ⟨s+1,0,none⟩=some (.int .i64 hi.1)∧Z.cell? ⟨s+1,1,none⟩=some (.int .i64 hi.2)) (by kernel_rfl) ?_
    have hbd:Below wr.heap.size wr wr.drew:=(Below.refl _ _).drew
    generalize wr.drew=wdA at hbd⊢
    have HDA:=hid hbd
    clear hbd
    refine AnyT.tD (i:=0) (v:=.slice (some ⟨rb,ro,none⟩) m mc) rfl rfl (by rintro w' ⟨q0,q1,q2,q3,q4,q5⟩;go_simp) (HSA.out _ HDA.out) ?_;go_frame
    refine AnyT.tD (i:=1) (v:=.int .i64 P) rfl rfl (by rintro w' ⟨q0,q1,q2,q3,q4,q5⟩;go_simp) (HSA.out _ HDA.out) ?_;go_frame
    refine AnyT.tD (i:=2) (v:=.pointer (some ⟨rb,ro+P*2,none⟩)) rfl rfl (by rintro w' ⟨q0,q1,q2,q3,q4,q5⟩;go_simp) (HSA.out _ HDA.out) ?_;go_frame
    refine AnyT.tD (i:=3) (v:=.agg #[.int .i64 x.1,.int .i64 x.2]) rfl rfl (by rintro w' ⟨q0,q1,q2,q3,q4,q5⟩;go_simp) (HSA.out _ HDA.out) ?_;go_frame
    refine AnyT.tD (i:=4) (v:=.agg #[.int .i64 lo.1,.int .i64 lo.2]) rfl rfl (by rintro w' ⟨q0,q1,q2,q3,q4,q5⟩;go_simp) (HSA.out _ HDA.out) ?_;go_frame
    refine AnyT.nx (i:=5) rfl ?_
    go_wp2_with (go_at_call 31;refine(HCL.out _).mono ?_;rintro e wcA ⟨rfl,hbc⟩;refine Stop.of ?_)
    refine Stop.go ?_
    have HEA:=hid (zAA HDA.out hbc)
    clear hbc
    go_wp2
    refine⟨fun _=>HSA.out _ HEA.out,?_⟩
    refine AnyT.nx (i:=6) rfl ?_
    go_wp2
    refine⟨fun _=>(HSA.out _ HEA.out),?_⟩
    refine AnyT.done (by kernel_rfl) ?_ _
    have LB:=hid (RL.out.keep (HEA.out.block _ RL.out.lt))
    have RB:=hid (RH.out.keep (HEA.out.block _ RH.out.lt))
    have BB:=hid (show Below w.heap.size w wcA from zAA HBK.out HEA.out)
    first
     | (have hq:cl<0:=hcl
        obtain⟨d0,d1,d2,d3,d4⟩:=LB.out.cells
        obtain⟨_,c0,c1⟩:=HXK.out _ BB.out
        go_upto_region 7 with fail
        have LC:=hid (RatI.set (p:=x) LB.out)
        have RC:=hid (RB.out.other (b:=s) (by omega) (.int .i64 x.1) (.int .i64 x.2))
        have BC:=hid (zBD BB.out HSW.out (.int .i64 x.1) (.int .i64 x.2))
        obtain⟨wb,hwb⟩:=exq ((wcA.setCell ⟨s,0,none⟩ (.int .i64 x.1)).setCell ⟨s,1,none⟩ (.int .i64 x.2))
        rw[<- hwb]at LC RC BC⊢
        obtain⟨l2,hl2⟩:=exq (x)
        have LC:=hid (show RatI wb s l2 by rw[hl2];exact LC.out)
        have HN1:=hid (show(zAZ L P (max (k+1) 1)).1=l2 from by rw[HNX0.out.1,hl2];simp[hq])
        clear hwb d0 d1 d2 d3 d4 c0 c1 LB RB BB hq hl2)
     | (have hq:¬cl<0:=by omega
        go_upto_region 7 with fail
        have LC:=hid LB.out
        have RC:=hid RB.out
        have BC:=hid BB.out
        obtain⟨wb,hwb⟩:=exq (wcA)
        subst hwb
        obtain⟨l2,hl2⟩:=exq (lo)
        have LC:=hid (show RatI wb s l2 by rw[hl2];exact LC.out)
        have HN1:=hid (show(zAZ L P (max (k+1) 1)).1=l2 from by rw[HNX0.out.1,hl2];simp[hq])
        clear LB RB BB hq hl2)
    have HSB:=hid (fun(Z:World) (hZ:Below wb.heap.size wb Z)=>show Z.cell? ⟨rb,ro+P*2,none⟩=some (.int .i64 x.1)∧Z.cell? ⟨rb,ro+P*2+1,none⟩=some (.int .i64 x.2)∧Z.cell? ⟨s,0,none⟩=some (.int .i64 l2.1)∧Z.cell? ⟨s,1,none⟩=some (.int .i64 l2.2)∧Z.cell? ⟨s+1,0,none⟩=some (.int .i64 hi.1)∧Z.cell? ⟨s+1,1,none⟩=some (.int .i64 hi.2)from by
     obtain⟨a0,a1,_⟩:=(LC.out.keep (hZ.block _ LC.out.lt)).cells
     obtain⟨b0,b1,_⟩:=(RC.out.keep (hZ.block _ RC.out.lt)).cells
     obtain⟨_,c0,c1⟩:=HXK.out Z (zAA BC.out hZ)
     exact⟨c0,c1,a0,a1,b0,b1⟩)
    by_cases hch:0<ch
    all_goals
     refine zAF (fun j' Z=>wAll j'=true->Z.cell? ⟨rb,ro+P*2,none⟩=some (.int .i64 x.1)∧Z.cell? ⟨rb,ro+P*2+1,none⟩=some (.int .i64 x.2)∧Z.cell? ⟨s,0,none⟩=some (.int .i64 l2.1)∧Z.cell? ⟨s,1,none⟩=some (.int .i64 l2.2)∧Z.cell? ⟨s+1,0,none⟩=some (.int .i64 hi.1)∧Z.cell? ⟨s+1,1,none⟩=some (.int .i64 hi.2)) (by kernel_rfl) ?_
     have hbd:Below wb.heap.size wb wb.drew:=(Below.refl _ _).drew
     generalize wb.drew=wdB at hbd⊢
     have HDB:=hid hbd
     clear hbd
     refine AnyT.tD (i:=0) (v:=.slice (some ⟨rb,ro,none⟩) m mc) rfl rfl (by rintro w' ⟨q0,q1,q2,q3,q4,q5⟩;go_simp) (HSB.out _ HDB.out) ?_;go_frame
     refine AnyT.tD (i:=1) (v:=.int .i64 P) rfl rfl (by rintro w' ⟨q0,q1,q2,q3,q4,q5⟩;go_simp) (HSB.out _ HDB.out) ?_;go_frame
     refine AnyT.tD (i:=2) (v:=.pointer (some ⟨rb,ro+P*2,none⟩)) rfl rfl (by rintro w' ⟨q0,q1,q2,q3,q4,q5⟩;go_simp) (HSB.out _ HDB.out) ?_;go_frame
     refine AnyT.tD (i:=3) (v:=.agg #[.int .i64 x.1,.int .i64 x.2]) rfl rfl (by rintro w' ⟨q0,q1,q2,q3,q4,q5⟩;go_simp) (HSB.out _ HDB.out) ?_;go_frame
     refine AnyT.tD (i:=4) (v:=.agg #[.int .i64 hi.1,.int .i64 hi.2]) rfl rfl (by rintro w' ⟨q0,q1,q2,q3,q4,q5⟩;go_simp) (HSB.out _ HDB.out) ?_;go_frame
     refine AnyT.nx (i:=5) rfl ?_
     go_wp2_with (go_at_call 31;refine(HCH.out _).mono ?_;rintro e wcB ⟨rfl,hbc⟩;refine Stop.of ?_)
     refine Stop.go ?_
     have HEB:=hid (zAA HDB.out hbc)
     clear hbc
     go_wp2
     refine⟨fun _=>HSB.out _ HEB.out,?_⟩
     refine AnyT.nx (i:=6) rfl ?_
     go_wp2
     refine⟨fun _=>(HSB.out _ HEB.out),?_⟩
     refine AnyT.done (by kernel_rfl) ?_ _
     have LD:=hid (LC.out.keep (HEB.out.block _ LC.out.lt))
     have RD:=hid (RC.out.keep (HEB.out.block _ RC.out.lt))
     have BD:=hid (show Below w.heap.size w wcB from zAA BC.out HEB.out)
     first
      | (have hq:0<ch:=hch
         have HN2:=hid (show(zAZ L P (max (k+1) 1)).2=x from by rw[HNX0.out.2];simp[hq])
         clear hq
         obtain⟨d0,d1,d2,d3,d4⟩:=RD.out.cells
         obtain⟨_,c0,c1⟩:=HXK.out _ BD.out
         go_wp2
         have RE:=hid (RatI.set (p:=x) RD.out)
         have LE:=hid (LD.out.other (b:=s+1) (by omega) (.int .i64 x.1) (.int .i64 x.2))
         have BE:=hid (zBD BD.out (show w.heap.size<=s+1 by have:=HSW.out;omega) (.int .i64 x.1) (.int .i64 x.2))
         exact⟨⟨k+1,by omega,by first|rfl|go_num|simp,by rw[HN1.out];exact LE.out,by rw[HN2.out];exact RE.out,BE.out⟩,by simp[intOf];try omega⟩)
      | (have hq:¬0<ch:=by omega
         have HN2:=hid (show(zAZ L P (max (k+1) 1)).2=hi from by rw[HNX0.out.2];simp[hq])
         clear hq
         go_wp2
         exact⟨⟨k+1,by omega,by first|rfl|go_num|simp,by rw[HN1.out];exact LD.out,by rw[HN2.out];exact RD.out,BD.out⟩,by simp[intOf];try omega⟩)
  ·obtain rfl:k=n:=by omega
   have HBK:=hid hbk
   have RL:=hid rl
   have RH:=hid rh
   obtain⟨lo,hlo⟩:=exq ((zAZ L P (max k 1)).1)
   obtain⟨hi,hhi⟩:=exq ((zAZ L P (max k 1)).2)
   have HRET:=hid (show ratV (zCL L P).1=ratV lo∧ratV (zCL L P).2=ratV hi by rw[HLN.out,hlo,hhi];rw[show max k 1=k by have:=HN0.out;omega];exact⟨rfl,rfl⟩)
   rw[<- hlo]at RL
   rw[<- hhi]at RH
   have i1:¬((k:Int)<(k:Int)):=by omega
   clear hbk rl rh hlo hhi
   go_wp2
   refine zAF (fun j X=>wAll j=true->X.cell? ⟨s,0,none⟩=some (.int .i64 lo.1)∧X.cell? ⟨s,1,none⟩=some (.int .i64 lo.2)∧X.cell? ⟨s+1,0,none⟩=some (.int .i64 hi.1)∧X.cell? ⟨s+1,1,none⟩=some (.int .i64 hi.2)) (by kernel_rfl) ?_
   have hbd:Below wr.heap.size wr wr.drew:=(Below.refl _ _).drew
   have G2:=hid (RL.out.keep (hbd.block _ RL.out.lt))
   have G3:=hid (RH.out.keep (hbd.block _ RH.out.lt))
   have KD:=hid (HBK.out.drew)
   generalize wr.drew=wd at G2 G3 KD⊢
   obtain⟨a0,a1,a2,a3,a4⟩:=G2.out.cells
   obtain⟨b0,b1,b2,b3,b4⟩:=G3.out.cells
   have hS:wd.cell? ⟨s,0,none⟩=some (.int .i64 lo.1)∧wd.cell? ⟨s,1,none⟩=some (.int .i64 lo.2)∧wd.cell? ⟨s+1,0,none⟩=some (.int .i64 hi.1)∧wd.cell? ⟨s+1,1,none⟩=some (.int .i64 hi.2):=⟨a0,a1,b0,b1⟩
   refine AnyT.tD (i:=0) (v:=.agg #[.int .i64 lo.1,.int .i64 lo.2]) rfl rfl (by rintro w' ⟨x1,x2,x3,x4⟩;go_simp) hS ?_;go_frame
   refine AnyT.tD (i:=1) (v:=.agg #[.int .i64 hi.1,.int .i64 hi.2]) rfl rfl (by rintro w' ⟨x1,x2,x3,x4⟩;go_simp) hS ?_;go_frame
   have M2:=hid (RatI.set (p:=lo) G2.out)
   have M3:=hid (G3.out.other (b:=s) (by omega) (.int .i64 lo.1) (.int .i64 lo.2))
   refine AnyT.nx (i:=2) rfl ?_
   go_wp2
   clear a0 a1 a2 a3 a4 b0 b1 b2 b3 b4 hS
   obtain⟨a0,a1,a2,a3,a4⟩:=M2.out.cells
   obtain⟨b0,b1,b2,b3,b4⟩:=M3.out.cells
   refine⟨fun _=>⟨a0,a1,b0,b1⟩,?_⟩
   have N3:=hid (RatI.set (p:=hi) M3.out)
   have N2:=hid (M2.out.other (b:=s+1) (by omega) (.int .i64 hi.1) (.int .i64 hi.2))
   have KN:=hid (zBD (zBD KD.out HSW.out (.int .i64 lo.1) (.int .i64 lo.2)) (show w.heap.size<=s+1 by have:=HSW.out;omega) (.int .i64 hi.1) (.int .i64 hi.2))
   refine AnyT.nx (i:=3) rfl ?_
   go_wp2
   clear a0 a1 a2 a3 a4 b0 b1 b2 b3 b4
   obtain⟨a0,a1,a2,a3,a4⟩:=N2.out.cells
   obtain⟨b0,b1,b2,b3,b4⟩:=N3.out.cells
   refine⟨fun _=>⟨a0,a1,b0,b1⟩,?_⟩
   refine AnyT.done (by kernel_rfl) ?_ _
   go_wp2
   change bodyPost _ _ _ _ _ ((((wd.setCell ⟨s,0,none⟩ (.int .i64 lo.1)).setCell ⟨s,1,none⟩ (.int .i64 lo.2)).setCell ⟨s+1,0,none⟩ (.int .i64 hi.1)).setCell ⟨s+1,1,none⟩ (.int .i64 hi.2))
   generalize (((wd.setCell ⟨s,0,none⟩ (.int .i64 lo.1)).setCell ⟨s,1,none⟩ (.int .i64 lo.2)).setCell ⟨s+1,0,none⟩ (.int .i64 hi.1)).setCell ⟨s+1,1,none⟩ (.int .i64 hi.2)=WF at*
   refine bodyPost_ret (v:=.tuple #[.agg #[.int .i64 lo.1,.int .i64 lo.2],.agg #[.int .i64 hi.1,.int .i64 hi.2]]) ?_ rfl ⟨by rw[HRET.out.1,HRET.out.2];rfl,KN.out⟩
   simp[results,Tryz.results103,go_sem,a0,a1,a2,a3,a4,b0,b1,b2,b3,b4]
end
section
open Go.RowKit
theorem spr_eq(n:Nat)(l:List Int)(v:List Rt):∀k,k<=v.length->zDJ n l v k=zHY n l v k
 |0,_=>rfl
 |k+1,h=>by
  rw[zIH,spr_eq n l v k (by omega)]
  show _=(zHY n l v k).set (l[k]?.getD 0).toNat (zAE v k)
  unfold zAE
  rw[List.getElem?_eq_getElem (show k<v.length by omega)];rfl
theorem spr_R{n:Nat}{f:FitT}(h:f.2.length=f.1.length):zOQ n f.1 f.2=sprF n f:=spr_eq n f.1 f.2 f.1.length (by omega)
theorem info_pics:(Tryz.prog.info? 42).map (fun i=>(i.zero,i.size,i.bytes))=some (some (.slice none 0 0),1,24):=by kernel_rfl
theorem qpicture_c(w:World)(a:Option Addr)(n cap:Nat)(M:Mask)(W:Nat)(y:Value)(us ur:Value)(f:FitT)(hn:M.length=n)(h0:0<n)(hW:W=zAB M)(hW1:1<=W)(hW10:W<=10)(H:zAN w a M)(hd:HdF w us ur f)(hs:zCK W f.1)(hl:f.2.length=f.1.length)(hl10:f.1.length<=10)(ya:Option Addr)(yn yc:Nat)(hy:y=.slice ya yn yc):
 Calls Tryz.prog 99 #[.agg #[.slice a n cap,y],.agg #[us,ur]] w fun e w'=>∃g,e=.returned (.slice (some ⟨g,0,none⟩) W W)∧w.heap.size<=g∧zBZ w' g (sprF W f)∧Below w.heap.size w w':=by
 subst hy
 obtain⟨pa,pn,pc,va,vn,vc,rfl,rfl,k1,k2,k3,k4,k5,k6⟩:=hd
 obtain⟨b0,off0,ra0,rc0,rfl,hb0,hc0⟩:=zCS H (by omega)
 rw[<- hW]at hc0
 obtain⟨qb,hqb⟩:=exq (w.heap.size)
 obtain⟨fb,hfb⟩:=exq (w.heap.size+1)
 obtain⟨wy,hwy⟩:=exq (w.alloc (.cells #[.slice (some ⟨b0,off0,none⟩) n cap,.slice ya yn yc] 86))
 have hby:Below w.heap.size w wy:=by rw[hwy];exact(Below.refl _ _).alloc (Nat.le_refl _) _
 have hys:wy.heap.size=w.heap.size+1:=by rw[hwy];simp
 have hqy:wy.heap[qb]? =some (.cells #[.slice (some ⟨b0,off0,none⟩) n cap,.slice ya yn yc] 86 (0,0)):=by rw[hwy,hqb];exact World.alloc_heap_new _ _
 obtain⟨wz,hwz⟩:=exq (wy.alloc (.cells #[.slice pa pn pc,.slice va vn vc] 73))
 have hyz:Below wy.heap.size wy wz:=by rw[hwz];exact(Below.refl _ _).alloc (Nat.le_refl _) _
 have hfz:wz.heap[fb]? =some (.cells #[.slice pa pn pc,.slice va vn vc] 73 (0,0)):=by rw[hwz,hfb,<- hys];exact World.alloc_heap_new _ _
 have hqz:wz.heap[qb]? =some (.cells #[.slice (some ⟨b0,off0,none⟩) n cap,.slice ya yn yc] 86 (0,0)):=(hyz.block qb (Array.getElem?_eq_some_iff.1 hqy).1).trans hqy
 have hbz:Below w.heap.size w wz:=zAA hby hyz
 have HWZ:=hid (show(w.alloc (.cells #[.slice (some ⟨b0,off0,none⟩) n cap,.slice ya yn yc] 86)).alloc (.cells #[.slice pa pn pc,.slice va vn vc] 73)=wz by rw[hwz,hwy])
 have HBZ:=hid hbz
 have HS:=hid (fun(Z:World) (hZ:Below wz.heap.size wz Z)=>show Z.cell? ⟨qb,0,none⟩=some (.slice (some ⟨b0,off0,none⟩) n cap)∧Z.cell? ⟨fb,0,none⟩=some (.slice pa pn pc)∧Z.cell? ⟨fb,1,none⟩=some (.slice va vn vc)∧Z.cell? ⟨b0,off0,none⟩=some (.slice ra0 W rc0)from by
  have h1:=(hZ.block qb (Array.getElem?_eq_some_iff.1 hqz).1).trans hqz
  have h2:=(hZ.block fb (Array.getElem?_eq_some_iff.1 hfz).1).trans hfz
  exact⟨by simp[World.cell?,h1],by simp[World.cell?,h2],by simp[World.cell?,h2],((zAA hbz hZ).cell (p:=⟨b0,off0,none⟩) hb0).trans hc0⟩)
 have HSP:=hid (fun(Z:World) (hZ:Below w.heap.size w Z)=>spread_c Z W hW1 (by omega) pa va pn pc vn vc f.1 f.2 k1 k4 (by omega) (by omega) (k3.below hZ) (k6.below hZ) (fun i hi=>by
  rw[List.getElem?_eq_getElem (show i<f.1.length by omega)]
  exact hs.2 _ (List.getElem_mem _)))
 rw[spr_R hl]at HSP
 have i0:(0:Int)<(n:Int):=by omega
 clear hn hW H hs hl hl10 k1 k2 k3 k4 k5 k6 hb0 hc0 hwy hby hys hqy hwz hyz hfz hqz hbz
 go_enter Tryz.func99,Tryz.ntmps99
 go_upto_region 1 with fail
 rw[<- hfb,<- hqb,HWZ.out]
 clear hfb hqb
 refine zAF (fun j' Z=>wAll j'=true->Z.cell? ⟨qb,0,none⟩=some (.slice (some ⟨b0,off0,none⟩) n cap)∧Z.cell? ⟨fb,0,none⟩=some (.slice pa pn pc)∧Z.cell? ⟨fb,1,none⟩=some (.slice va vn vc)∧Z.cell? ⟨b0,off0,none⟩=some (.slice ra0 W rc0)) (by kernel_rfl) ?_
 have hbd:Below wz.heap.size wz wz.drew:=(Below.refl _ _).drew
 generalize wz.drew=wd at hbd⊢
 have HBD:=hid hbd
 clear hbd
 refine AnyT.tD (i:=0) (v:=.pointer (some ⟨qb,0,none⟩)) rfl rfl (by rintro w' ⟨q0,q1,q2,q3⟩;go_simp) (HS.out _ HBD.out) ?_;go_frame
 refine AnyT.tD (i:=1) (v:=.slice (some ⟨b0,off0,none⟩) n cap) rfl rfl (by rintro w' ⟨q0,q1,q2,q3⟩;go_simp) (HS.out _ HBD.out) ?_;go_frame
 refine AnyT.tD (i:=2) (v:=.pointer (some ⟨b0,off0,none⟩)) rfl rfl (by rintro w' ⟨q0,q1,q2,q3⟩;go_simp) (HS.out _ HBD.out) ?_;go_frame
 refine AnyT.tD (i:=3) (v:=.slice ra0 W rc0) rfl rfl (by rintro w' ⟨q0,q1,q2,q3⟩;go_simp) (HS.out _ HBD.out) ?_;go_frame
 refine AnyT.tD (i:=4) (v:=.int .i64 W) rfl rfl (by rintro w' ⟨q0,q1,q2,q3⟩;go_simp) (HS.out _ HBD.out) ?_;go_frame
 refine AnyT.tD (i:=5) (v:=.pointer (some ⟨fb,0,none⟩)) rfl rfl (by rintro w' ⟨q0,q1,q2,q3⟩;go_simp) (HS.out _ HBD.out) ?_;go_frame
 refine AnyT.tD (i:=6) (v:=.slice pa pn pc) rfl rfl (by rintro w' ⟨q0,q1,q2,q3⟩;go_simp) (HS.out _ HBD.out) ?_;go_frame
 refine AnyT.tD (i:=7) (v:=.pointer (some ⟨fb,1,none⟩)) rfl rfl (by rintro w' ⟨q0,q1,q2,q3⟩;go_simp) (HS.out _ HBD.out) ?_;go_frame
 refine AnyT.tD (i:=8) (v:=.slice va vn vc) rfl rfl (by rintro w' ⟨q0,q1,q2,q3⟩;go_simp) (HS.out _ HBD.out) ?_;go_frame
 refine AnyT.nx (i:=9) rfl ?_
 go_wp2_with (go_at_call 162;refine(HSP.out _ (zAA HBZ.out HBD.out)).mono ?_;rintro e w5 ⟨g,rfl,hg,hr,hb5⟩;refine Stop.of ?_)
 refine Stop.go ?_
 have HB5:=hid (zAA HBD.out hb5)
 have HRB:=hid hr
 have HGS:=hid (show w.heap.size<=g by have:=HBZ.out.size;have:=HBD.out.size;omega)
 clear hb5 hr hg
 go_wp2
 refine⟨fun _=>HS.out _ HB5.out,?_⟩
 refine AnyT.nx (i:=10) rfl ?_
 go_wp2
 refine⟨fun _=>HS.out _ HB5.out,?_⟩
 refine AnyT.done (by kernel_rfl) ?_ _
 go_wp2
 go_ret
 exact⟨g,rfl,HGS.out,HRB.out,zAA HBZ.out HB5.out⟩
def CorP(M:Mask)(Y:List Int)(e:Ending)(w':World):Prop:=∃ca c,e=.returned (.tuple #[.slice ca (zAU M Y).length c,.int .i64 (valE M Y).2])∧(zAU M Y).length<=11264∧zDQ w' ca (zAU M Y)
theorem zOE(w:World)(a a2:Option Addr)(n cap n2 cap2:Nat)(M:Mask)(Y:List Int)(hn:M.length=n)(hn2:Y.length=n2)(hm:n<=maxLen)(hm2:n2<=maxLen)(H:zAN w a M)(H2:zAI w a2 Y):
 Calls Tryz.prog 37 #[.slice a n cap,.slice a2 n2 cap2] w fun e w'=>CorP M Y e w'∧Below w.heap.size w w':=by
 have HAS:=hid (fun(X:World) (hX:Below w.heap.size w X)=>dasked_c X a a2 n cap n2 cap2 M Y hn hn2 hm hm2 (H.below hX) (H2.below hX))
 by_cases hv:(valE M Y).2=0
 rotate_left
 ·have HC0:=hid (show zAU M Y=[]by unfold zAU;rw[if_neg hv])
  obtain⟨F,hF⟩:=exq ((valE M Y).2)
  have HAS0:=hid (fun(X:World) (hX:Below w.heap.size w X)=>show Calls Tryz.prog 73 #[.slice a n cap,.slice a2 n2 cap2] X fun e w'=>e=.returned (.tuple #[.agg #[.slice none 0 0,.slice none 0 0,.int .i64 0,.int .i64 0,.slice none 0 0],.int .i64 F])∧Below X.heap.size X w' from by
   refine(HAS.out X hX).mono ?_
   rintro e w' ⟨hb,⟨h0,he⟩|⟨h0,h1,he⟩|⟨h0,h1,_⟩⟩
   ·refine⟨?_,hb⟩
    rw[he,hF];unfold valE;rw[if_pos h0]
   ·refine⟨?_,hb⟩
    rw[he,hF];unfold valE;rw[if_neg (fun h=>h h0),if_pos h1]
   ·exfalso;apply hv;unfold valE;rw[if_neg (fun h=>h h0),if_neg h1])
  have HPP:=hid (show ∀e w',e=.returned (.tuple #[.slice none 0 0,.int .i64 F])->CorP M Y e w' from fun e w' he=>⟨none,0,by rw[HC0.out,<- hF];exact he,by rw[HC0.out];simp,by rw[HC0.out];exact fun j hj=>by simp at hj⟩)
  clear hn hn2 H H2 hv hF HAS
  go_enter Tryz.func37,Tryz.ntmps37
  go_upto_region 2 with (go_at_call 73;refine(HAS0.out _ (Below.refl _ _)).mono ?_;rintro e w1 ⟨rfl,hb1⟩;have HB1:=hid hb1;clear hb1;refine Stop.of ?_)
  refine Stop.go ?_
  go_upto_region 2 with fail
  obtain⟨ab,hab⟩:=exq (w1.heap.size)
  obtain⟨wa,hwa⟩:=exq (w1.alloc (.cells #[.slice none 0 0,.slice none 0 0,.int .i64 0,.int .i64 0,.slice none 0 0] 89))
  rw[<- hab,<- hwa]
  have A0:AnsB wa ab (.slice none 0 0) (.slice none 0 0) (0,0) (.slice none 0 0):=by rw[hwa,hab];exact World.alloc_heap_new _ _
  have HBA:=hid (show Below w.heap.size w wa by rw[hwa];exact HB1.out.alloc HB1.out.size _)
  obtain⟨_,_,_,_,c4,_⟩:=A0.cells
  clear A0 hwa hab
  go_wp2
  go_loopw [8,20] (fun v i wr=>v=.slice none 0 0∧i=.int .i64 0∧wr=wa) (fun _ _ _=>0)
  case atStart=>exact⟨rfl,rfl,rfl⟩
  case round=>
   obtain⟨rfl,rfl,rfl⟩:=hrel
   go_wp2
   go_ret2
   exact⟨HPP.out _ _ rfl,HBA.out⟩
 obtain⟨hr0,ho⟩:=zLP hv
 obtain⟨hok,hyl,hmil⟩:=zHZ hr0
 obtain⟨hM,h1,h6,hc1,hc10⟩:=zCT hok
 obtain⟨C,hC⟩:=exq (zFC M Y)
 have hce:zAU M Y=C.map (sprF (zAB M)):=by unfold zAU;rw[if_pos hv,hC]
 have HAS1:=hid (fun(X:World) (hX:Below w.heap.size w X)=>show Calls Tryz.prog 73 #[.slice a n cap,.slice a2 n2 cap2] X fun e w'=>(∃ca c,e=.returned (.tuple #[.agg #[.slice a n cap,.slice a2 n2 cap2,.int .i64 (valF M Y).1,.int .i64 (valF M Y).2,.slice ca C.length c],.int .i64 0])∧zFB w' ca C)∧Below X.heap.size X w' from by
  refine(HAS.out X hX).mono ?_
  rintro e w' ⟨hb,⟨h0,he⟩|⟨h0,h1,he⟩|⟨h0,h1,ca,c,he,hf⟩⟩
  ·exfalso;rw[zHL]at hr0;exact h0 hr0
  ·exfalso
   rcases zFM hr0 with⟨_,k⟩|⟨k,_⟩
   ·rw[k]at hv;cases hv
   ·exact k h1
  ·rw[hC];exact⟨⟨ca,c,he,hf⟩,hb⟩)
 have HCF:=hid (fun(f:FitT) (hf:f∈C)=>show zCK (zAB M) f.1∧f.2.length=f.1.length∧f.1.length<=10 from by
  rw[hC]at hf
  have hf1:=((zLI hr0).1 hf).1
  obtain⟨k1,k2,_⟩:=zDD hok hyl hmil hf1
  have:=(zGA (show f∈allF M Y by rw[zFZ hc10];exact hf1)).2.2
  exact⟨k1,k2,by omega⟩)
 have hCl:C.length<=11264:=by
  have h2:C.length<=(zBI M Y 10).length:=by
   rw[hC];unfold zFC
   rw[(zEM _).length_eq]
   exact zOT _
  have h3:=zDG M Y (zAB M) (min (min 10 (zAB M)) M.length+1)
  have h4:zBI M Y 10=zBU M Y (zAB M) (min (min 10 (zAB M)) M.length+1):=rfl
  rw[h4]at h2
  have h5:(min (min 10 (zAB M)) M.length+1)*2 ^ zAB M<=11*2 ^ 10:=Nat.mul_le_mul (by omega) (Nat.pow_le_pow_right (by decide) hc10)
  omega
 obtain⟨W,hW⟩:=exq (zAB M)
 obtain⟨vn,hvn⟩:=exq ((valF M Y).1)
 obtain⟨vd,hvd⟩:=exq ((valF M Y).2)
 have HPI:=hid (fun(X:World) (hX:Below w.heap.size w X) (us ur:Value) (f:FitT) (hd:HdF X us ur f) (hf:f∈C)=>qpicture_c X a n cap M W (.slice a2 n2 cap2) us ur f hn (by omega) hW (by omega) (by omega) (H.below hX) hd (by rw[hW];exact(HCF.out f hf).1) (HCF.out f hf).2.1 (HCF.out f hf).2.2 a2 n2 cap2 rfl)
 have HPP:=hid (show ∀ca c e w',e=.returned (.tuple #[.slice ca C.length c,.int .i64 0])->zDQ w' ca (C.map (sprF W))->CorP M Y e w' from fun ca c e w' he hp=>⟨ca,c,by rw[hv,hce,List.length_map];exact he,by rw[hce,List.length_map];exact hCl,by rw[hce,<- hW];exact hp⟩)
 rw[<- hvn,<- hvd]at HAS1
 have HW10:=hid (show W<=10 by omega)
 have HCL:=hid hCl
 clear hn hn2 H H2 hv hr0 ho hok hyl hmil hM h1 h6 hc1 hc10 hC hce hW hvn hvd HAS HCF
 go_enter Tryz.func37,Tryz.ntmps37
 go_upto_region 2 with (go_at_call 73;refine(HAS1.out _ (Below.refl _ _)).mono ?_;rintro e w1 ⟨⟨ca,cc,rfl,hfa⟩,hb1⟩;have HB1:=hid hb1;have HFA:=hid hfa;clear hb1 hfa;refine Stop.of ?_)
 refine Stop.go ?_
 go_upto_region 2 with fail
 obtain⟨ab,hab⟩:=exq (w1.heap.size)
 obtain⟨X,hX⟩:=exq (w1.alloc (.cells #[.slice a n cap,.slice a2 n2 cap2,.int .i64 vn,.int .i64 vd,.slice ca C.length cc] 89))
 rw[<- hab,<- hX]
 have hA0:AnsB X ab (.slice a n cap) (.slice a2 n2 cap2) (vn,vd) (.slice ca C.length cc):=by rw[hX,hab];exact World.alloc_heap_new _ _
 have hB1X:Below w1.heap.size w1 X:=by rw[hX];exact(Below.refl _ _).alloc (Nat.le_refl _) _
 have HBX:=hid (zAA HB1.out hB1X)
 have HFX:=hid (HFA.out.below hB1X)
 have HA0:=hid hA0
 obtain⟨_,_,_,_,c4,_⟩:=hA0.cells
 clear hA0 hab hX hB1X
 go_wp2
 clear c4
 go_loopw [8,20] (fun v i wr=>∃k:Nat,k<=C.length∧i=.int .i64 k∧TabQ wr X.heap.size v ((C.map (sprF W)).take k)∧Below X.heap.size X wr) (fun _ i _=>C.length-(intOf i).toNat)
 case atStart=>exact⟨0,Nat.zero_le _,rfl,TabQ.nil _ _,Below.refl _ _⟩
 case round=>
  obtain⟨k,hk,rfl,hT,hbk⟩:=hrel
  by_cases hlt:k<C.length
  ·obtain⟨b,off,us,ur,rfl,hb,q0,q1,hd⟩:=HFX.out.hd hlt
   obtain⟨pa,pn,pc,va,vn',vc,rfl,rfl,_⟩:=id hd
   have q0':wr.cell? ⟨b,off+k*2,none⟩=some (.slice pa pn pc):=(hbk.cell (p:=⟨b,_,none⟩) hb).trans q0
   have q1':wr.cell? ⟨b,off+k*2+1,none⟩=some (.slice va vn' vc):=(hbk.cell (p:=⟨b,_,none⟩) hb).trans q1
   obtain⟨f,hf⟩:=exq (C[k])
   rw[<- hf]at hd
   have hfm:f∈C:=by rw[hf];exact List.getElem_mem hlt
   have HTK:=hid (show(C.map (sprF W)).take (k+1)=(C.map (sprF W)).take k++[sprF W f]by
    rw[List.take_succ_eq_append_getElem (by simp;exact hlt),List.getElem_map,hf])
   have i0:(0:Int)<=(k:Int):=by omega
   have i1:(k:Int)<(C.length:Int):=by omega
   have hk9:k<=11264:=by have:=HCL.out;omega
   have HD:=hid hd
   have HFM:=hid hfm
   have HTT:=hid hT
   have HBK:=hid hbk
   clear hd hf hfm hT hbk q0 q1 hb
   go_upto_region 6 with fail
   obtain⟨h,hh⟩:=exq (wr.heap.size)
   obtain⟨wh,hwh⟩:=exq (wr.alloc (.cells #[.slice pa pn pc,.slice va vn' vc] 73))
   rw[<- hh,<- hwh]
   have hbh:Below wr.heap.size wr wh:=by rw[hwh];exact(Below.refl _ _).alloc (Nat.le_refl _) _
   have hch:wh.heap[h]? =some (.cells #[.slice pa pn pc,.slice va vn' vc] 73 (0,0)):=by rw[hwh,hh];exact World.alloc_heap_new _ _
   have HBH:=hid (zAA HBK.out hbh)
   have HTH:=hid (HTT.out.below hbh)
   obtain⟨x0,x1,_⟩:=(HA0.out.keep (HBH.out.block _ HA0.out.lt)).cells
   have y0:wh.cell? ⟨h,0,none⟩=some (.slice pa pn pc):=by simp[World.cell?,hch]
   have y1:wh.cell? ⟨h,1,none⟩=some (.slice va vn' vc):=by simp[World.cell?,hch]
   have HDH:=hid (HD.out.below HBH.out)
   clear q0' q1' hh hwh hch hbh HTT HBK
   go_upto_region 7 with (go_at_call 99;refine(HPI.out _ (zAA HBX.out HBH.out) _ _ f HDH.out HFM.out).mono ?_;rintro e w3 ⟨g,rfl,hg,hrb,hb3⟩;refine Stop.of ?_)
   refine Stop.go ?_
   have hT3:=HTH.out.below hb3
   obtain⟨ta,tc,hte⟩:=hT3.slice
   subst hte
   obtain⟨xs,hoo,hoe⟩:=hT3
   have hq:((C.map (sprF W)).take k).length=k:=by simp;omega
   rw[hq]at hoo⊢
   have HRO:=hid (zED.own (base:=X.heap.size) (hrb.own (zGC W f) (show W<=maxLen by have:=HW10.out;unfold maxLen;omega) (Nat.le_refl g)))
   have HOO:=hid hoo
   have HOE:=hid hoe
   have HQ:=hid hq
   have HB3:=hid (zAA HBH.out hb3)
   have HNW:=hid (zBL w3 (.slice (some ⟨g,0,none⟩) W W) 42)
   have M1:=hid (show k+1<=maxLen by unfold maxLen;omega)
   have M2:=hid (show(k+1)*24<=140737488355328 by omega)
   have M3:=hid (Nat.le_trans HB3.out.size (zBS w3 (.cells #[.slice (some ⟨g,0,none⟩) W W] 42)))
   have HONE:=hid (show ∀u∈[Value.slice (some ⟨g,0,none⟩) W W],u.oneCell'=true from fun u hu=>by simp at hu;subst hu;rfl)
   clear hoo hoe hq hb3 hrb hg x0 x1 y0 y1
   go_wp2_with (at_builtin;refine zAK _ rfl (.tmp 24) (.tmp 29) 54 rfl X.heap.size 42 (.slice none 0 0) 1 24 Tryz.underlying54 info_pics rfl (by decide) (.slice ta k tc) k xs rfl (HOO.out.alloc _) (some ⟨w3.heap.size,0,none⟩) 1 1 [.slice (some ⟨g,0,none⟩) W W] rfl rfl zBP HNW.out HONE.out M1.out M2.out M3.out ?_;intro a9 c9 w9 own9 g9;refine Stop.of ?_)
   refine Stop.go ?_
   have hb39:Below w3.heap.size w3 (w3.alloc (.cells #[.slice (some ⟨g,0,none⟩) W W] 42)):=(Below.refl _ _).alloc (Nat.le_refl _) _
   have HSN:=hid (TabQ.snoc (L:=(C.map (sprF W)).take k) (by rw[HQ.out];exact HOO.out) HOE.out hb39 (HRO.out.below hb39) g9 (by rw[HQ.out];exact own9))
   have HB9:=hid (show Below X.heap.size X w9 from(HB3.out.alloc HB3.out.size _).grown g9 M3.out (fun g hg=>(HOO.out.lt g hg).1))
   clear own9 g9 hb39
   go_wp2
   refine⟨⟨k+1,by omega,by go_num,?_,HB9.out⟩,by simp[intOf];omega⟩
   rw[HTK.out];exact HSN.out
  ·obtain rfl:k=C.length:=by omega
   rw[List.take_of_length_le (by simp)]at hT
   obtain⟨ta,tc,hte⟩:=hT.slice
   rw[List.length_map]at hte
   subst hte
   obtain⟨h1,h2,h3⟩:=hT.reads
   have HP3:=hid h3
   have HBK:=hid (zAA HBX.out hbk)
   have i1:¬((C.length:Int)<(C.length:Int)):=by omega
   clear hT hbk h1 h2 h3
   go_wp2
   go_ret2
   exact⟨HPP.out ta tc _ _ rfl HP3.out,HBK.out⟩
end
end Go.Proofs.YtlffndehhhpgjaaGreat
