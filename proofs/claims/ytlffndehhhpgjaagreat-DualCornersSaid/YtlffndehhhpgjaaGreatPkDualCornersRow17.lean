/- Walks and plain laws for DualCornersRow, part 17. -/
import Derived.Test.YtlffndehhhpgjaaGreatPkDualCornersRow16
namespace Go.Proofs.YtlffndehhhpgjaaGreat
set_option linter.unusedVariables false
set_option linter.unusedSimpArgs false
set_option maxRecDepth 100000
set_option maxHeartbeats 4000000
section
open Go.RowKit
def F2(r:Rt):Prop:=F64 r.1∧F64 r.2
theorem span_f{l:List (List Rt)}{p:Nat}(h:∀k:Nat,F2 (zAB (l[k]?.getD []) p)):∀k:Nat,F2 (zBD l p k).1∧F2 (zBD l p k).2
 |0=>by unfold zBD F2 F64;simp only[];omega
 |k+1=>by
  obtain⟨h1,h2⟩:=span_f h k
  show F2 (if _ then _ else _)∧F2 (if _ then _ else _)
  constructor
  ·split
   ·exact h k
   ·exact h1
  ·split
   ·exact h k
   ·exact h2
theorem zCQ{B:Nat}{a w:World}(h:Below B a w){b:Nat}(hb:B<=b)(v0 v1:Value):Below B a ((w.setCell ⟨b,0,none⟩ v0).setCell ⟨b,1,none⟩ v1):=zAG (zAG h hb 0 v0) hb 1 v1
theorem RatI.other{w:World}{g b:Nat}{r:Rt}(h:RatI w g r)(hn:g≠b)(x y:Value):RatI ((w.setCell ⟨b,0,none⟩ x).setCell ⟨b,1,none⟩ y) g r:=h.keep ((zBJ w b x y).block g h.lt hn)
theorem span_step{l:List (List Rt)}{p:Nat}(k:Nat):(zBD l p (k+1)).1=(if k=0∨cmpF (zAB (l[k]?.getD []) p) (zBD l p k).1<0 then zAB (l[k]?.getD []) p else(zBD l p k).1)∧
 (zBD l p (k+1)).2=(if k=0∨0<cmpF (zAB (l[k]?.getD []) p) (zBD l p k).2 then zAB (l[k]?.getD []) p else(zBD l p k).2):=⟨rfl,rfl⟩
theorem dspan_c(w:World)(a:Option Addr)(n cap P:Nat)(L:List (List Rt))(hn:L.length=n)(h0:0<n)(hm:n<=11264)(hP:P<=10)(H:zHS w a L)(hl:∀k (hk:k<L.length),P<L[k].length)(hf:∀k:Nat,F2 (zAB (L[k]?.getD []) P)):
 Calls Tryz.prog 102 #[.slice a n cap,.int .i64 P] w fun e w'=>e=.returned (.tuple #[ratV (zDY L P).1,ratV (zDY L P).2])∧Below w.heap.size w w':=by
 obtain⟨s,hs⟩:=exq (w.heap.size)
 obtain⟨wz,hwz⟩:=exq ((w.alloc (.cells #[.int .i64 0,.int .i64 0] 29)).alloc (.cells #[.int .i64 0,.int .i64 0] 29))
 have hbz:Below w.heap.size w wz:=by rw[hwz];exact((Below.refl _ _).alloc (Nat.le_refl _) _).alloc (by simp) _
 have qa:RatI wz s (0,0):=by
  rw[hwz,hs]
  exact(RatI.made w (0,0)).keep (Below.heap_alloc _ _ _ (by simp))
 have qb:RatI wz (s+1) (0,0):=by
  have h:=RatI.made (w.alloc (.cells #[.int .i64 0,.int .i64 0] 29)) (0,0)
  rw[World.size_alloc]at h
  rw[hwz,hs];exact h
 have HSW:=hid (show w.heap.size<=s by omega)
 have HSF:=hid (span_f hf)
 have HF:=hid hf
 have HPI:=hid (fun(k:Nat) (hk:k<n)=>show ∃b off ra m c rb ro,a=some ⟨b,off,none⟩∧ra=some ⟨rb,ro,none⟩∧P<m∧m<=maxLen∧∀Y:World,Below w.heap.size w Y->Y.cell? ⟨b,off+k,none⟩=some (.slice ra m c)∧Y.cell? ⟨rb,ro+P*2,none⟩=some (.int .i64 (zAB (L[k]?.getD []) P).1)∧Y.cell? ⟨rb,ro+P*2+1,none⟩=some (.int .i64 (zAB (L[k]?.getD []) P).2)from by
  subst hn
  obtain⟨b,off,ra,m,c,e,hb,g0,g1,g2,g3⟩:=H k hk
  have hlk:=hl k hk
  have hx:zAB (L[k]?.getD []) P=L[k][P]'hlk:=by
   rw[List.getElem?_eq_getElem hk];show(L[k][P]?).getD (0,1)=_;rw[List.getElem?_eq_getElem hlk];rfl
  obtain⟨rb,ro,e2,hrb,y0,y1⟩:=g3 P hlk
  refine⟨b,off,ra,m,c,rb,ro,e,e2,by omega,g2,fun Y hY=>?_⟩
  rw[hx]
  exact⟨(hY.cell (p:=⟨b,_,none⟩) hb).trans g0,(hY.cell (p:=⟨rb,_,none⟩) hrb).trans y0,(hY.cell (p:=⟨rb,_,none⟩) hrb).trans y1⟩)
 have HN0:=hid h0
 have HNM:=hid hm
 have HLN:=hid (show zDY L P=zBD L P n by unfold zDY;rw[hn])
 have HPP:=hid hP
 have HBZ:=hid hbz
 have QA:=hid qa
 have QB:=hid qb
 clear hn h0 hm hP H hl hf hbz qa qb
 go_enter Tryz.func102,Tryz.ntmps102
 go_wp2_with fail
 rw[<- hs,<- hwz]
 clear hs hwz
 go_loopw [10] (fun i wr=>∃k:Nat,k<=n∧i=.int .i64 k∧RatI wr s (zBD L P k).1∧RatI wr (s+1) (zBD L P k).2∧Below w.heap.size w wr) (fun i _=>n-(intOf i).toNat)
 case atStart=>exact⟨0,Nat.zero_le _,rfl,QA.out,QB.out,HBZ.out⟩
 case round=>
  obtain⟨k,hk,rfl,rl,rh,hbk⟩:=hrel
  by_cases hlt:k<n
  ·obtain⟨b_,o_,ra,m,mc,rb,ro,ea,rfl,hPm,hmm,hxk⟩:=HPI.out k hlt
   subst ea
   obtain⟨x,hx⟩:=exq (zAB (L[k]?.getD []) P)
   rw[<- hx]at hxk
   have HXK:=hid hxk
   obtain⟨h0,_,_⟩:=hxk wr hbk
   obtain⟨lo,hlo⟩:=exq ((zBD L P k).1)
   obtain⟨hi,hhi⟩:=exq ((zBD L P k).2)
   have HFX:=hid (show F2 x by rw[hx];exact HF.out k)
   have HFL:=hid (show F2 lo by rw[hlo];exact(HSF.out _).1)
   have HFH:=hid (show F2 hi by rw[hhi];exact(HSF.out _).2)
   obtain⟨cl,hcl⟩:=exq (cmpF x lo)
   obtain⟨ch,hch⟩:=exq (cmpF x hi)
   have HCL:=hid (fun(Z:World)=>show Calls Tryz.prog 136 #[.agg #[.int .i64 x.1,.int .i64 x.2],.agg #[.int .i64 lo.1,.int .i64 lo.2]] Z fun e w'=>e=.returned (.int .i64 cl)∧Below Z.heap.size Z w' from by
    rw[hcl];exact zKE Z _ _ _ _ HFX.out.1 HFX.out.2 HFL.out.1 HFL.out.2)
   have HCH:=hid (fun(Z:World)=>show Calls Tryz.prog 136 #[.agg #[.int .i64 x.1,.int .i64 x.2],.agg #[.int .i64 hi.1,.int .i64 hi.2]] Z fun e w'=>e=.returned (.int .i64 ch)∧Below Z.heap.size Z w' from by
    rw[hch];exact zKE Z _ _ _ _ HFX.out.1 HFX.out.2 HFH.out.1 HFH.out.2)
   have HBK:=hid hbk
   have RL:=hid (show RatI wr s lo by rw[hlo];exact rl)
   have RH:=hid (show RatI wr (s+1) hi by rw[hhi];exact rh)
   have HNX0:=hid (span_step (l:=L) (p:=P) k)
   rw[<- hx,<- hlo,<- hhi,<- hcl,<- hch]at HNX0
   have hk9:k<=11264:=by have:=HNM.out;omega
   have hP9:P<=10:=HPP.out
   have i0:(0:Int)<=(k:Int):=by omega
   have i1:(k:Int)<(n:Int):=by omega
   have i2:(0:Int)<=(P:Int):=by omega
   have i3:(P:Int)<(m:Int):=by omega
   clear hxk hx hlo hhi hcl hch rl rh hbk
   by_cases hk0:k=0
   ·subst hk0
    rw[Nat.add_zero]at h0
    have HNX:=hid (show(zBD L P (0+1)).1=x∧(zBD L P (0+1)).2=x from by
     obtain⟨g1,g2⟩:=HNX0.out
     rw[g1,g2]
     simp[HN0.out])
    have HSA:=hid (fun(Z:World) (hZ:Below wr.heap.size wr Z)=>show Z.cell? ⟨rb,ro+P*2,none⟩=some (.int .i64 x.1)∧Z.cell? ⟨rb,ro+P*2+1,none⟩=some (.int .i64 x.2)∧Z.cell? ⟨s,0,none⟩=some (.int .i64 lo.1)∧Z.cell? ⟨s,1,none⟩=some (.int .i64 lo.2)∧Z.cell? ⟨s+1,0,none⟩=some (.int .i64 hi.1)∧Z.cell? ⟨s+1,1,none⟩=some (.int .i64 hi.2)from by
     obtain⟨a0,a1,_⟩:=(RL.out.keep (hZ.block _ RL.out.lt)).cells
     obtain⟨b0,b1,_⟩:=(RH.out.keep (hZ.block _ RH.out.lt)).cells
     obtain⟨_,c0,c1⟩:=HXK.out Z (zAA HBK.out hZ)
     exact⟨c0,c1,a0,a1,b0,b1⟩)
    go_upto_region 4 with fail
    refine zAF (fun j' Z=>wAll j'=true->Z.cell? ⟨rb,ro+P*2,none⟩=some (.int .i64 x.1)∧Z.cell? ⟨rb,ro+P*2+1,none⟩=some (.int .i64 x.2)∧Z.cell? ⟨s,0,none⟩=some (.int .i64 lo.1)∧Z.cell? ⟨s,1,none⟩=some (.int .i64 lo.2)∧Z.cell? ⟨s+1,0,none⟩=some (.int .i64 hi.1)∧Z.cell? ⟨s+1,1,none⟩=some (.int .i64 hi.2)) (by kernel_rfl) ?_
    have hbd:Below wr.heap.size wr wr.drew:=(Below.refl _ _).drew
    generalize wr.drew=wdA at hbd⊢
    have HDA:=hid hbd
    clear hbd
    refine AnyT.nx (i:=0) rfl ?_
    go_wp2
    refine⟨fun _=>(HSA.out _ HDA.out),?_⟩
    refine AnyT.nx (i:=1) rfl ?_
    go_wp2
    refine⟨fun _=>(HSA.out _ HDA.out),?_⟩
    refine AnyT.nx (i:=2) rfl ?_
    go_wp2
    refine⟨fun _=>(HSA.out _ HDA.out),?_⟩
    refine AnyT.tN (i:=3) rfl rfl (HSA.out _ HDA.out) ?_;go_frame
    refine AnyT.tN (i:=4) rfl rfl (HSA.out _ HDA.out) ?_;go_frame
    refine AnyT.tN (i:=5) rfl rfl (HSA.out _ HDA.out) ?_;go_frame
    refine AnyT.tN (i:=6) rfl rfl (HSA.out _ HDA.out) ?_;go_frame
    refine AnyT.tN (i:=7) rfl rfl (HSA.out _ HDA.out) ?_;go_frame
    refine AnyT.tN (i:=8) rfl rfl (HSA.out _ HDA.out) ?_;go_frame
    refine AnyT.tN (i:=9) rfl rfl (HSA.out _ HDA.out) ?_;go_frame
    refine AnyT.nx (i:=10) rfl ?_
    go_wp2
    refine⟨fun _=>(HSA.out _ HDA.out),?_⟩
    refine AnyT.done (by kernel_rfl) ?_ _
    have LB:=hid (RL.out.keep (HDA.out.block _ RL.out.lt))
    have RB:=hid (RH.out.keep (HDA.out.block _ RH.out.lt))
    have BB:=hid (show Below w.heap.size w wdA from zAA HBK.out HDA.out)
    obtain⟨d0,d1,d2,d3,d4⟩:=LB.out.cells
    obtain⟨_,c0,c1⟩:=HXK.out _ BB.out
    go_upto_region 6 with fail
    have LC:=hid (RatI.set (p:=x) LB.out)
    have RC:=hid (RB.out.other (b:=s) (by omega) (.int .i64 x.1) (.int .i64 x.2))
    have BC:=hid (zCQ BB.out HSW.out (.int .i64 x.1) (.int .i64 x.2))
    obtain⟨wb,hwb⟩:=exq ((wdA.setCell ⟨s,0,none⟩ (.int .i64 x.1)).setCell ⟨s,1,none⟩ (.int .i64 x.2))
    rw[<- hwb]at LC RC BC⊢
    clear hwb d0 d1 d2 d3 d4 c0 c1 LB RB BB
    have HSB:=hid (fun(Z:World) (hZ:Below wb.heap.size wb Z)=>show Z.cell? ⟨rb,ro+P*2,none⟩=some (.int .i64 x.1)∧Z.cell? ⟨rb,ro+P*2+1,none⟩=some (.int .i64 x.2)∧Z.cell? ⟨s,0,none⟩=some (.int .i64 x.1)∧Z.cell? ⟨s,1,none⟩=some (.int .i64 x.2)∧Z.cell? ⟨s+1,0,none⟩=some (.int .i64 hi.1)∧Z.cell? ⟨s+1,1,none⟩=some (.int .i64 hi.2)from by
     obtain⟨a0,a1,_⟩:=(LC.out.keep (hZ.block _ LC.out.lt)).cells
     obtain⟨b0,b1,_⟩:=(RC.out.keep (hZ.block _ RC.out.lt)).cells
     obtain⟨_,c0,c1⟩:=HXK.out Z (zAA BC.out hZ)
     exact⟨c0,c1,a0,a1,b0,b1⟩)
    refine zAF (fun j' Z=>wAll j'=true->Z.cell? ⟨rb,ro+P*2,none⟩=some (.int .i64 x.1)∧Z.cell? ⟨rb,ro+P*2+1,none⟩=some (.int .i64 x.2)∧Z.cell? ⟨s,0,none⟩=some (.int .i64 x.1)∧Z.cell? ⟨s,1,none⟩=some (.int .i64 x.2)∧Z.cell? ⟨s+1,0,none⟩=some (.int .i64 hi.1)∧Z.cell? ⟨s+1,1,none⟩=some (.int .i64 hi.2)) (by kernel_rfl) ?_
    have hbd:Below wb.heap.size wb wb.drew:=(Below.refl _ _).drew
    generalize wb.drew=wdB at hbd⊢
    have HDB:=hid hbd
    clear hbd
    refine AnyT.nx (i:=0) rfl ?_
    go_wp2
    refine⟨fun _=>(HSB.out _ HDB.out),?_⟩
    refine AnyT.nx (i:=1) rfl ?_
    go_wp2
    refine⟨fun _=>(HSB.out _ HDB.out),?_⟩
    refine AnyT.nx (i:=2) rfl ?_
    go_wp2
    refine⟨fun _=>(HSB.out _ HDB.out),?_⟩
    refine AnyT.tN (i:=3) rfl rfl (HSB.out _ HDB.out) ?_;go_frame
    refine AnyT.tN (i:=4) rfl rfl (HSB.out _ HDB.out) ?_;go_frame
    refine AnyT.tN (i:=5) rfl rfl (HSB.out _ HDB.out) ?_;go_frame
    refine AnyT.tN (i:=6) rfl rfl (HSB.out _ HDB.out) ?_;go_frame
    refine AnyT.tN (i:=7) rfl rfl (HSB.out _ HDB.out) ?_;go_frame
    refine AnyT.tN (i:=8) rfl rfl (HSB.out _ HDB.out) ?_;go_frame
    refine AnyT.tN (i:=9) rfl rfl (HSB.out _ HDB.out) ?_;go_frame
    refine AnyT.nx (i:=10) rfl ?_
    go_wp2
    refine⟨fun _=>(HSB.out _ HDB.out),?_⟩
    refine AnyT.done (by kernel_rfl) ?_ _
    have LD:=hid (LC.out.keep (HDB.out.block _ LC.out.lt))
    have RD:=hid (RC.out.keep (HDB.out.block _ RC.out.lt))
    have BD:=hid (show Below w.heap.size w wdB from zAA BC.out HDB.out)
    obtain⟨d0,d1,d2,d3,d4⟩:=RD.out.cells
    obtain⟨_,c0,c1⟩:=HXK.out _ BD.out
    go_wp2
    have RE:=hid (RatI.set (p:=x) RD.out)
    have LE:=hid (LD.out.other (b:=s+1) (by omega) (.int .i64 x.1) (.int .i64 x.2))
    have BE:=hid (zCQ BD.out (show w.heap.size<=s+1 by have:=HSW.out;omega) (.int .i64 x.1) (.int .i64 x.2))
    exact⟨⟨0+1,by omega,by first|rfl|go_num|simp,by rw[HNX.out.1];exact LE.out,by rw[HNX.out.2];exact RE.out,BE.out⟩,by simp[intOf];try omega⟩
   ·have hkz:¬(k:Int)=0:=by omega
    have hke:((k:Int)==0)=false:=by simpa using hk0
    by_cases hcl:cl<0
    all_goals
     have HSA:=hid (fun(Z:World) (hZ:Below wr.heap.size wr Z)=>show Z.cell? ⟨rb,ro+P*2,none⟩=some (.int .i64 x.1)∧Z.cell? ⟨rb,ro+P*2+1,none⟩=some (.int .i64 x.2)∧Z.cell? ⟨s,0,none⟩=some (.int .i64 lo.1)∧Z.cell? ⟨s,1,none⟩=some (.int .i64 lo.2)∧Z.cell? ⟨s+1,0,none⟩=some (.int .i64 hi.1)∧Z.cell? ⟨s+1,1,none⟩=some (.int .i64 hi.2)from by
      obtain⟨a0,a1,_⟩:=(RL.out.keep (hZ.block _ RL.out.lt)).cells
      obtain⟨b0,b1,_⟩:=(RH.out.keep (hZ.block _ RH.out.lt)).cells
      obtain⟨_,c0,c1⟩:=HXK.out Z (zAA HBK.out hZ)
      exact⟨c0,c1,a0,a1,b0,b1⟩)
     go_upto_region 4 with fail
     refine zAF (fun j' Z=>wAll j'=true->Z.cell? ⟨rb,ro+P*2,none⟩=some (.int .i64 x.1)∧Z.cell? ⟨rb,ro+P*2+1,none⟩=some (.int .i64 x.2)∧Z.cell? ⟨s,0,none⟩=some (.int .i64 lo.1)∧Z.cell? ⟨s,1,none⟩=some (.int .i64 lo.2)∧Z.cell? ⟨s+1,0,none⟩=some (.int .i64 hi.1)∧Z.cell? ⟨s+1,1,none⟩=some (.int .i64 hi.2)) (by kernel_rfl) ?_
     have hbd:Below wr.heap.size wr wr.drew:=(Below.refl _ _).drew
     generalize wr.drew=wdA at hbd⊢
     have HDA:=hid hbd
     clear hbd
     refine AnyT.nx (i:=0) rfl ?_
     go_wp2
     refine⟨fun _=>(HSA.out _ HDA.out),?_⟩
     refine AnyT.nx (i:=1) rfl ?_
     go_wp2
     refine⟨fun _=>(HSA.out _ HDA.out),?_⟩
     refine AnyT.nx (i:=2) rfl ?_
     go_wp2
     refine⟨fun _=>(HSA.out _ HDA.out),?_⟩
     refine AnyT.tD (i:=3) (v:=.slice (some ⟨rb,ro,none⟩) m mc) rfl rfl (by rintro w' ⟨q0,q1,q2,q3,q4,q5⟩;go_simp) (HSA.out _ HDA.out) ?_;go_frame
     refine AnyT.tD (i:=4) (v:=.int .i64 P) rfl rfl (by rintro w' ⟨q0,q1,q2,q3,q4,q5⟩;go_simp) (HSA.out _ HDA.out) ?_;go_frame
     refine AnyT.tD (i:=5) (v:=.pointer (some ⟨rb,ro+P*2,none⟩)) rfl rfl (by rintro w' ⟨q0,q1,q2,q3,q4,q5⟩;go_simp) (HSA.out _ HDA.out) ?_;go_frame
     refine AnyT.tD (i:=6) (v:=.agg #[.int .i64 x.1,.int .i64 x.2]) rfl rfl (by rintro w' ⟨q0,q1,q2,q3,q4,q5⟩;go_simp) (HSA.out _ HDA.out) ?_;go_frame
     refine AnyT.tD (i:=7) (v:=.agg #[.int .i64 lo.1,.int .i64 lo.2]) rfl rfl (by rintro w' ⟨q0,q1,q2,q3,q4,q5⟩;go_simp) (HSA.out _ HDA.out) ?_;go_frame
     refine AnyT.nx (i:=8) rfl ?_
     go_wp2_with (go_at_call 136;refine(HCL.out _).mono ?_;rintro e wcA ⟨rfl,hbc⟩;refine Stop.of ?_)
     refine Stop.go ?_
     have HEA:=hid (zAA HDA.out hbc)
     clear hbc
     go_wp2
     refine⟨fun _=>HSA.out _ HEA.out,?_⟩
     refine AnyT.nx (i:=9) rfl ?_
     go_wp2
     refine⟨fun _=>(HSA.out _ HEA.out),?_⟩
     refine AnyT.nx (i:=10) rfl ?_
     go_wp2
     refine⟨fun _=>(HSA.out _ HEA.out),?_⟩
     refine AnyT.done (by kernel_rfl) ?_ _
     have LB:=hid (RL.out.keep (HEA.out.block _ RL.out.lt))
     have RB:=hid (RH.out.keep (HEA.out.block _ RH.out.lt))
     have BB:=hid (show Below w.heap.size w wcA from zAA HBK.out HEA.out)
     first
      | (have hq:cl<0:=hcl
         obtain⟨d0,d1,d2,d3,d4⟩:=LB.out.cells
         obtain⟨_,c0,c1⟩:=HXK.out _ BB.out
         go_upto_region 6 with fail
         have LC:=hid (RatI.set (p:=x) LB.out)
         have RC:=hid (RB.out.other (b:=s) (by omega) (.int .i64 x.1) (.int .i64 x.2))
         have BC:=hid (zCQ BB.out HSW.out (.int .i64 x.1) (.int .i64 x.2))
         obtain⟨wb,hwb⟩:=exq ((wcA.setCell ⟨s,0,none⟩ (.int .i64 x.1)).setCell ⟨s,1,none⟩ (.int .i64 x.2))
         rw[<- hwb]at LC RC BC⊢
         obtain⟨l2,hl2⟩:=exq (x)
         have LC:=hid (show RatI wb s l2 by rw[hl2];exact LC.out)
         have HN1:=hid (show(zBD L P (k+1)).1=l2 from by rw[HNX0.out.1,hl2];simp[hk0,hq])
         clear hwb d0 d1 d2 d3 d4 c0 c1 LB RB BB hq hl2)
      | (have hq:¬cl<0:=by omega
         go_upto_region 6 with fail
         have LC:=hid LB.out
         have RC:=hid RB.out
         have BC:=hid BB.out
         obtain⟨wb,hwb⟩:=exq (wcA)
         subst hwb
         obtain⟨l2,hl2⟩:=exq (lo)
         have LC:=hid (show RatI wb s l2 by rw[hl2];exact LC.out)
         have HN1:=hid (show(zBD L P (k+1)).1=l2 from by rw[HNX0.out.1,hl2];simp[hk0,hq])
         clear LB RB BB hq hl2)
     have HSB:=hid (fun(Z:World) (hZ:Below wb.heap.size wb Z)=>show Z.cell? ⟨rb,ro+P*2,none⟩=some (.int .i64 x.1)∧Z.cell? ⟨rb,ro+P*2+1,none⟩=some (.int .i64 x.2)∧Z.cell? ⟨s,0,none⟩=some (.int .i64 l2.1)∧Z.cell? ⟨s,1,none⟩=some (.int .i64 l2.2)∧Z.cell? ⟨s+1,0,none⟩=some (.int .i64 hi.1)∧Z.cell? ⟨s+1,1,none⟩=some (.int .i64 hi.2)from by
      obtain⟨a0,a1,_⟩:=(LC.out.keep (hZ.block _ LC.out.lt)).cells
      obtain⟨b0,b1,_⟩:=(RC.out.keep (hZ.block _ RC.out.lt)).cells
      obtain⟨_,c0,c1⟩:=HXK.out Z (zAA BC.out hZ)
      exact⟨c0,c1,a0,a1,b0,b1⟩)
     by_cases hch:0<ch
     all_goals
      refine zAF (fun j' Z=>wAll j'=true->Z.cell? ⟨rb,ro+P*2,none⟩=some (.int .i64 x.1)∧Z.cell? ⟨rb,ro+P*2+1,none⟩=some (.int .i64 x.2)∧Z.cell? ⟨s,0,none⟩=some (.int .i64 l2.1)∧Z.cell? ⟨s,1,none⟩=some (.int .i64 l2.2)∧Z.cell? ⟨s+1,0,none⟩=some (.int .i64 hi.1)∧Z.cell? ⟨s+1,1,none⟩=some (.int .i64 hi.2)) (by kernel_rfl) ?_
      have hbd:Below wb.heap.size wb wb.drew:=(Below.refl _ _).drew
      generalize wb.drew=wdB at hbd⊢
      have HDB:=hid hbd
      clear hbd
      refine AnyT.nx (i:=0) rfl ?_
      go_wp2
      refine⟨fun _=>(HSB.out _ HDB.out),?_⟩
      refine AnyT.nx (i:=1) rfl ?_
      go_wp2
      refine⟨fun _=>(HSB.out _ HDB.out),?_⟩
      refine AnyT.nx (i:=2) rfl ?_
      go_wp2
      refine⟨fun _=>(HSB.out _ HDB.out),?_⟩
      refine AnyT.tD (i:=3) (v:=.slice (some ⟨rb,ro,none⟩) m mc) rfl rfl (by rintro w' ⟨q0,q1,q2,q3,q4,q5⟩;go_simp) (HSB.out _ HDB.out) ?_;go_frame
      refine AnyT.tD (i:=4) (v:=.int .i64 P) rfl rfl (by rintro w' ⟨q0,q1,q2,q3,q4,q5⟩;go_simp) (HSB.out _ HDB.out) ?_;go_frame
      refine AnyT.tD (i:=5) (v:=.pointer (some ⟨rb,ro+P*2,none⟩)) rfl rfl (by rintro w' ⟨q0,q1,q2,q3,q4,q5⟩;go_simp) (HSB.out _ HDB.out) ?_;go_frame
      refine AnyT.tD (i:=6) (v:=.agg #[.int .i64 x.1,.int .i64 x.2]) rfl rfl (by rintro w' ⟨q0,q1,q2,q3,q4,q5⟩;go_simp) (HSB.out _ HDB.out) ?_;go_frame
      refine AnyT.tD (i:=7) (v:=.agg #[.int .i64 hi.1,.int .i64 hi.2]) rfl rfl (by rintro w' ⟨q0,q1,q2,q3,q4,q5⟩;go_simp) (HSB.out _ HDB.out) ?_;go_frame
      refine AnyT.nx (i:=8) rfl ?_
      go_wp2_with (go_at_call 136;refine(HCH.out _).mono ?_;rintro e wcB ⟨rfl,hbc⟩;refine Stop.of ?_)
      refine Stop.go ?_
      have HEB:=hid (zAA HDB.out hbc)
      clear hbc
      go_wp2
      refine⟨fun _=>HSB.out _ HEB.out,?_⟩
      refine AnyT.nx (i:=9) rfl ?_
      go_wp2
      refine⟨fun _=>(HSB.out _ HEB.out),?_⟩
      refine AnyT.nx (i:=10) rfl ?_
      go_wp2
      refine⟨fun _=>(HSB.out _ HEB.out),?_⟩
      refine AnyT.done (by kernel_rfl) ?_ _
      have LD:=hid (LC.out.keep (HEB.out.block _ LC.out.lt))
      have RD:=hid (RC.out.keep (HEB.out.block _ RC.out.lt))
      have BD:=hid (show Below w.heap.size w wcB from zAA BC.out HEB.out)
      first
       | (have hq:0<ch:=hch
          have HN2:=hid (show(zBD L P (k+1)).2=x from by rw[HNX0.out.2];simp[hk0,hq])
          clear hq
          obtain⟨d0,d1,d2,d3,d4⟩:=RD.out.cells
          obtain⟨_,c0,c1⟩:=HXK.out _ BD.out
          go_wp2
          have RE:=hid (RatI.set (p:=x) RD.out)
          have LE:=hid (LD.out.other (b:=s+1) (by omega) (.int .i64 x.1) (.int .i64 x.2))
          have BE:=hid (zCQ BD.out (show w.heap.size<=s+1 by have:=HSW.out;omega) (.int .i64 x.1) (.int .i64 x.2))
          exact⟨⟨k+1,by omega,by first|rfl|go_num|simp,by rw[HN1.out];exact LE.out,by rw[HN2.out];exact RE.out,BE.out⟩,by simp[intOf];try omega⟩)
       | (have hq:¬0<ch:=by omega
          have HN2:=hid (show(zBD L P (k+1)).2=hi from by rw[HNX0.out.2];simp[hk0,hq])
          clear hq
          go_wp2
          exact⟨⟨k+1,by omega,by first|rfl|go_num|simp,by rw[HN1.out];exact LD.out,by rw[HN2.out];exact RD.out,BD.out⟩,by simp[intOf];try omega⟩)
  ·obtain rfl:k=n:=by omega
   have HBK:=hid hbk
   have RL:=hid rl
   have RH:=hid rh
   obtain⟨lo,hlo⟩:=exq ((zBD L P k).1)
   obtain⟨hi,hhi⟩:=exq ((zBD L P k).2)
   have HRET:=hid (show ratV (zDY L P).1=ratV lo∧ratV (zDY L P).2=ratV hi by rw[HLN.out,hlo,hhi];exact⟨rfl,rfl⟩)
   rw[<- hlo]at RL
   rw[<- hhi]at RH
   have i1:¬((k:Int)<(k:Int)):=by omega
   clear hbk rl rh hlo hhi
   go_wp2
   refine zAF (fun j X=>wAll j=true->X.cell? ⟨s,0,none⟩=some (.int .i64 lo.1)∧X.cell? ⟨s,1,none⟩=some (.int .i64 lo.2)∧X.cell? ⟨s+1,0,none⟩=some (.int .i64 hi.1)∧X.cell? ⟨s+1,1,none⟩=some (.int .i64 hi.2)) (by kernel_rfl) ?_
   have hbd:Below wr.heap.size wr wr.drew:=(Below.refl _ _).drew
   have G2:=hid (RL.out.keep (hbd.block _ RL.out.lt))
   have G3:=hid (RH.out.keep (hbd.block _ RH.out.lt))
   have KD:=hid (HBK.out.drew)
   generalize wr.drew=wd at G2 G3 KD⊢
   obtain⟨a0,a1,a2,a3,a4⟩:=G2.out.cells
   obtain⟨b0,b1,b2,b3,b4⟩:=G3.out.cells
   have hS:wd.cell? ⟨s,0,none⟩=some (.int .i64 lo.1)∧wd.cell? ⟨s,1,none⟩=some (.int .i64 lo.2)∧wd.cell? ⟨s+1,0,none⟩=some (.int .i64 hi.1)∧wd.cell? ⟨s+1,1,none⟩=some (.int .i64 hi.2):=⟨a0,a1,b0,b1⟩
   refine AnyT.tD (i:=0) (v:=.agg #[.int .i64 lo.1,.int .i64 lo.2]) rfl rfl (by rintro w' ⟨x1,x2,x3,x4⟩;go_simp) hS ?_;go_frame
   refine AnyT.tD (i:=1) (v:=.agg #[.int .i64 hi.1,.int .i64 hi.2]) rfl rfl (by rintro w' ⟨x1,x2,x3,x4⟩;go_simp) hS ?_;go_frame
   have M2:=hid (RatI.set (p:=lo) G2.out)
   have M3:=hid (G3.out.other (b:=s) (by omega) (.int .i64 lo.1) (.int .i64 lo.2))
   refine AnyT.nx (i:=2) rfl ?_
   go_wp2
   clear a0 a1 a2 a3 a4 b0 b1 b2 b3 b4 hS
   obtain⟨a0,a1,a2,a3,a4⟩:=M2.out.cells
   obtain⟨b0,b1,b2,b3,b4⟩:=M3.out.cells
   refine⟨fun _=>⟨a0,a1,b0,b1⟩,?_⟩
   have N3:=hid (RatI.set (p:=hi) M3.out)
   have N2:=hid (M2.out.other (b:=s+1) (by omega) (.int .i64 hi.1) (.int .i64 hi.2))
   have KN:=hid (zCQ (zCQ KD.out HSW.out (.int .i64 lo.1) (.int .i64 lo.2)) (show w.heap.size<=s+1 by have:=HSW.out;omega) (.int .i64 hi.1) (.int .i64 hi.2))
   refine AnyT.nx (i:=3) rfl ?_
   go_wp2
   clear a0 a1 a2 a3 a4 b0 b1 b2 b3 b4
   obtain⟨a0,a1,a2,a3,a4⟩:=N2.out.cells
   obtain⟨b0,b1,b2,b3,b4⟩:=N3.out.cells
   refine⟨fun _=>⟨a0,a1,b0,b1⟩,?_⟩
   refine AnyT.done (by kernel_rfl) ?_ _
   go_wp2
   change bodyPost _ _ _ _ _ ((((wd.setCell ⟨s,0,none⟩ (.int .i64 lo.1)).setCell ⟨s,1,none⟩ (.int .i64 lo.2)).setCell ⟨s+1,0,none⟩ (.int .i64 hi.1)).setCell ⟨s+1,1,none⟩ (.int .i64 hi.2))
   generalize (((wd.setCell ⟨s,0,none⟩ (.int .i64 lo.1)).setCell ⟨s,1,none⟩ (.int .i64 lo.2)).setCell ⟨s+1,0,none⟩ (.int .i64 hi.1)).setCell ⟨s+1,1,none⟩ (.int .i64 hi.2)=WF at*
   refine bodyPost_ret (v:=.tuple #[.agg #[.int .i64 lo.1,.int .i64 lo.2],.agg #[.int .i64 hi.1,.int .i64 hi.2]]) ?_ rfl ⟨by rw[HRET.out.1,HRET.out.2];rfl,KN.out⟩
   simp[results,Tryz.results102,go_sem,a0,a1,a2,a3,a4,b0,b1,b2,b3,b4]
end
section
open Go.RowKit
theorem spr_eq(n:Nat)(l:List Int)(v:List Rt):∀k,k<=v.length->zDL n l v k=zMC n l v k
 |0,_=>rfl
 |k+1,h=>by
  rw[zID,spr_eq n l v k (by omega)]
  show _=(zMC n l v k).set (l[k]?.getD 0).toNat (zAB v k)
  unfold zAB
  rw[List.getElem?_eq_getElem (show k<v.length by omega)];rfl
theorem spr_R{n:Nat}{f:FitT}(h:f.2.length=f.1.length):zOV n f.1 f.2=sprF n f:=spr_eq n f.1 f.2 f.1.length (by omega)
theorem info_pics:(Tryz.prog.info? 42).map (fun i=>(i.zero,i.size,i.bytes))=some (some (.slice none 0 0),1,24):=by kernel_rfl
theorem qpicture_c(w:World)(a:Option Addr)(n cap:Nat)(M:Mask)(W:Nat)(y:Value)(us ur:Value)(f:FitT)(hn:M.length=n)(h0:0<n)(hW:W=zAC M)(hW1:1<=W)(hW10:W<=10)(H:zAN w a M)(hd:HdF w us ur f)(hs:zCL W f.1)(hl:f.2.length=f.1.length)(hl10:f.1.length<=10)(ya:Option Addr)(yn yc:Nat)(hy:y=.slice ya yn yc):
 Calls Tryz.prog 99 #[.agg #[.slice a n cap,y],.agg #[us,ur]] w fun e w'=>∃g,e=.returned (.slice (some ⟨g,0,none⟩) W W)∧w.heap.size<=g∧zCG w' g (sprF W f)∧Below w.heap.size w w':=by
 subst hy
 obtain⟨pa,pn,pc,va,vn,vc,rfl,rfl,k1,k2,k3,k4,k5,k6⟩:=hd
 obtain⟨b0,off0,ra0,rc0,rfl,hb0,hc0⟩:=zEA H (by omega)
 rw[<- hW]at hc0
 obtain⟨qb,hqb⟩:=exq (w.heap.size)
 obtain⟨fb,hfb⟩:=exq (w.heap.size+1)
 obtain⟨wy,hwy⟩:=exq (w.alloc (.cells #[.slice (some ⟨b0,off0,none⟩) n cap,.slice ya yn yc] 86))
 have hby:Below w.heap.size w wy:=by rw[hwy];exact(Below.refl _ _).alloc (Nat.le_refl _) _
 have hys:wy.heap.size=w.heap.size+1:=by rw[hwy];simp
 have hqy:wy.heap[qb]? =some (.cells #[.slice (some ⟨b0,off0,none⟩) n cap,.slice ya yn yc] 86 (0,0)):=by rw[hwy,hqb];exact World.alloc_heap_new _ _
 obtain⟨wz,hwz⟩:=exq (wy.alloc (.cells #[.slice pa pn pc,.slice va vn vc] 73))
 have hyz:Below wy.heap.size wy wz:=by rw[hwz];exact(Below.refl _ _).alloc (Nat.le_refl _) _
 have hfz:wz.heap[fb]? =some (.cells #[.slice pa pn pc,.slice va vn vc] 73 (0,0)):=by rw[hwz,hfb,<- hys];exact World.alloc_heap_new _ _
 have hqz:wz.heap[qb]? =some (.cells #[.slice (some ⟨b0,off0,none⟩) n cap,.slice ya yn yc] 86 (0,0)):=(hyz.block qb (Array.getElem?_eq_some_iff.1 hqy).1).trans hqy
 have hbz:Below w.heap.size w wz:=zAA hby hyz
 have HWZ:=hid (show(w.alloc (.cells #[.slice (some ⟨b0,off0,none⟩) n cap,.slice ya yn yc] 86)).alloc (.cells #[.slice pa pn pc,.slice va vn vc] 73)=wz by rw[hwz,hwy])
 have HBZ:=hid hbz
 have HS:=hid (fun(Z:World) (hZ:Below wz.heap.size wz Z)=>show Z.cell? ⟨qb,0,none⟩=some (.slice (some ⟨b0,off0,none⟩) n cap)∧Z.cell? ⟨fb,0,none⟩=some (.slice pa pn pc)∧Z.cell? ⟨fb,1,none⟩=some (.slice va vn vc)∧Z.cell? ⟨b0,off0,none⟩=some (.slice ra0 W rc0)from by
  have h1:=(hZ.block qb (Array.getElem?_eq_some_iff.1 hqz).1).trans hqz
  have h2:=(hZ.block fb (Array.getElem?_eq_some_iff.1 hfz).1).trans hfz
  exact⟨by simp[World.cell?,h1],by simp[World.cell?,h2],by simp[World.cell?,h2],((zAA hbz hZ).cell (p:=⟨b0,off0,none⟩) hb0).trans hc0⟩)
 have HSP:=hid (fun(Z:World) (hZ:Below w.heap.size w Z)=>spread_c Z W hW1 (by omega) pa va pn pc vn vc f.1 f.2 k1 k4 (by omega) (by omega) (k3.below hZ) (k6.below hZ) (fun i hi=>by
  rw[List.getElem?_eq_getElem (show i<f.1.length by omega)]
  exact hs.2 _ (List.getElem_mem _)))
 rw[spr_R hl]at HSP
 have i0:(0:Int)<(n:Int):=by omega
 clear hn hW H hs hl hl10 k1 k2 k3 k4 k5 k6 hb0 hc0 hwy hby hys hqy hwz hyz hfz hqz hbz
 go_enter Tryz.func99,Tryz.ntmps99
 go_upto_region 1 with fail
 rw[<- hfb,<- hqb,HWZ.out]
 clear hfb hqb
 refine zAF (fun j' Z=>wAll j'=true->Z.cell? ⟨qb,0,none⟩=some (.slice (some ⟨b0,off0,none⟩) n cap)∧Z.cell? ⟨fb,0,none⟩=some (.slice pa pn pc)∧Z.cell? ⟨fb,1,none⟩=some (.slice va vn vc)∧Z.cell? ⟨b0,off0,none⟩=some (.slice ra0 W rc0)) (by kernel_rfl) ?_
 have hbd:Below wz.heap.size wz wz.drew:=(Below.refl _ _).drew
 generalize wz.drew=wd at hbd⊢
 have HBD:=hid hbd
 clear hbd
 refine AnyT.tD (i:=0) (v:=.pointer (some ⟨qb,0,none⟩)) rfl rfl (by rintro w' ⟨q0,q1,q2,q3⟩;go_simp) (HS.out _ HBD.out) ?_;go_frame
 refine AnyT.tD (i:=1) (v:=.slice (some ⟨b0,off0,none⟩) n cap) rfl rfl (by rintro w' ⟨q0,q1,q2,q3⟩;go_simp) (HS.out _ HBD.out) ?_;go_frame
 refine AnyT.tD (i:=2) (v:=.pointer (some ⟨b0,off0,none⟩)) rfl rfl (by rintro w' ⟨q0,q1,q2,q3⟩;go_simp) (HS.out _ HBD.out) ?_;go_frame
 refine AnyT.tD (i:=3) (v:=.slice ra0 W rc0) rfl rfl (by rintro w' ⟨q0,q1,q2,q3⟩;go_simp) (HS.out _ HBD.out) ?_;go_frame
 refine AnyT.tD (i:=4) (v:=.int .i64 W) rfl rfl (by rintro w' ⟨q0,q1,q2,q3⟩;go_simp) (HS.out _ HBD.out) ?_;go_frame
 refine AnyT.tD (i:=5) (v:=.pointer (some ⟨fb,0,none⟩)) rfl rfl (by rintro w' ⟨q0,q1,q2,q3⟩;go_simp) (HS.out _ HBD.out) ?_;go_frame
 refine AnyT.tD (i:=6) (v:=.slice pa pn pc) rfl rfl (by rintro w' ⟨q0,q1,q2,q3⟩;go_simp) (HS.out _ HBD.out) ?_;go_frame
 refine AnyT.tD (i:=7) (v:=.pointer (some ⟨fb,1,none⟩)) rfl rfl (by rintro w' ⟨q0,q1,q2,q3⟩;go_simp) (HS.out _ HBD.out) ?_;go_frame
 refine AnyT.tD (i:=8) (v:=.slice va vn vc) rfl rfl (by rintro w' ⟨q0,q1,q2,q3⟩;go_simp) (HS.out _ HBD.out) ?_;go_frame
 refine AnyT.nx (i:=9) rfl ?_
 go_wp2_with (go_at_call 162;refine(HSP.out _ (zAA HBZ.out HBD.out)).mono ?_;rintro e w5 ⟨g,rfl,hg,hr,hb5⟩;refine Stop.of ?_)
 refine Stop.go ?_
 have HB5:=hid (zAA HBD.out hb5)
 have HRB:=hid hr
 have HGS:=hid (show w.heap.size<=g by have:=HBZ.out.size;have:=HBD.out.size;omega)
 clear hb5 hr hg
 go_wp2
 refine⟨fun _=>HS.out _ HB5.out,?_⟩
 refine AnyT.nx (i:=10) rfl ?_
 go_wp2
 refine⟨fun _=>HS.out _ HB5.out,?_⟩
 refine AnyT.done (by kernel_rfl) ?_ _
 go_wp2
 go_ret
 exact⟨g,rfl,HGS.out,HRB.out,zAA HBZ.out HB5.out⟩
def CorP(M:Mask)(Y:List Int)(e:Ending)(w':World):Prop:=∃ca c,e=.returned (.tuple #[.slice ca (zBO M Y).length c,.int .i64 (valE M Y).2])∧(zBO M Y).length<=11264∧zHS w' ca (zBO M Y)
theorem zOI(w:World)(a a2:Option Addr)(n cap n2 cap2:Nat)(M:Mask)(Y:List Int)(hn:M.length=n)(hn2:Y.length=n2)(hm:n<=maxLen)(hm2:n2<=maxLen)(H:zAN w a M)(H2:zAI w a2 Y):
 Calls Tryz.prog 37 #[.slice a n cap,.slice a2 n2 cap2] w fun e w'=>CorP M Y e w'∧Below w.heap.size w w':=by
 have HAS:=hid (fun(X:World) (hX:Below w.heap.size w X)=>zPS X a a2 n cap n2 cap2 M Y hn hn2 hm hm2 (H.below hX) (H2.below hX))
 by_cases hv:(valE M Y).2=0
 rotate_left
 ·have HC0:=hid (show zBO M Y=[]by unfold zBO;rw[if_neg hv])
  obtain⟨F,hF⟩:=exq ((valE M Y).2)
  have HAS0:=hid (fun(X:World) (hX:Below w.heap.size w X)=>show Calls Tryz.prog 73 #[.slice a n cap,.slice a2 n2 cap2] X fun e w'=>e=.returned (.tuple #[.agg #[.slice none 0 0,.slice none 0 0,.int .i64 0,.int .i64 0,.slice none 0 0],.int .i64 F])∧Below X.heap.size X w' from by
   refine(HAS.out X hX).mono ?_
   rintro e w' ⟨hb,⟨h0,he⟩|⟨h0,h1,he⟩|⟨h0,h1,_⟩⟩
   ·refine⟨?_,hb⟩
    rw[he,hF];unfold valE;rw[if_pos h0]
   ·refine⟨?_,hb⟩
    rw[he,hF];unfold valE;rw[if_neg (fun h=>h h0),if_pos h1]
   ·exfalso;apply hv;unfold valE;rw[if_neg (fun h=>h h0),if_neg h1])
  have HPP:=hid (show ∀e w',e=.returned (.tuple #[.slice none 0 0,.int .i64 F])->CorP M Y e w' from fun e w' he=>⟨none,0,by rw[HC0.out,<- hF];exact he,by rw[HC0.out];simp,by rw[HC0.out];exact fun j hj=>by simp at hj⟩)
  clear hn hn2 H H2 hv hF HAS
  go_enter Tryz.func37,Tryz.ntmps37
  go_upto_region 2 with (go_at_call 73;refine(HAS0.out _ (Below.refl _ _)).mono ?_;rintro e w1 ⟨rfl,hb1⟩;have HB1:=hid hb1;clear hb1;refine Stop.of ?_)
  refine Stop.go ?_
  go_upto_region 2 with fail
  obtain⟨ab,hab⟩:=exq (w1.heap.size)
  obtain⟨wa,hwa⟩:=exq (w1.alloc (.cells #[.slice none 0 0,.slice none 0 0,.int .i64 0,.int .i64 0,.slice none 0 0] 89))
  rw[<- hab,<- hwa]
  have A0:AnsB wa ab (.slice none 0 0) (.slice none 0 0) (0,0) (.slice none 0 0):=by rw[hwa,hab];exact World.alloc_heap_new _ _
  have HBA:=hid (show Below w.heap.size w wa by rw[hwa];exact HB1.out.alloc HB1.out.size _)
  obtain⟨_,_,_,_,c4,_⟩:=A0.cells
  clear A0 hwa hab
  go_wp2
  go_loopw [8,20] (fun v i wr=>v=.slice none 0 0∧i=.int .i64 0∧wr=wa) (fun _ _ _=>0)
  case atStart=>exact⟨rfl,rfl,rfl⟩
  case round=>
   obtain⟨rfl,rfl,rfl⟩:=hrel
   go_wp2
   go_ret2
   exact⟨HPP.out _ _ rfl,HBA.out⟩
 obtain⟨hr0,ho⟩:=zJR hv
 obtain⟨hok,hyl,hmil⟩:=zHV hr0
 obtain⟨hM,h1,h6,hc1,hc10⟩:=zDJ hok
 obtain⟨C,hC⟩:=exq (zKH M Y)
 have hce:zBO M Y=C.map (sprF (zAC M)):=by unfold zBO;rw[if_pos hv,hC]
 have HAS1:=hid (fun(X:World) (hX:Below w.heap.size w X)=>show Calls Tryz.prog 73 #[.slice a n cap,.slice a2 n2 cap2] X fun e w'=>(∃ca c,e=.returned (.tuple #[.agg #[.slice a n cap,.slice a2 n2 cap2,.int .i64 (valF M Y).1,.int .i64 (valF M Y).2,.slice ca C.length c],.int .i64 0])∧zJM w' ca C)∧Below X.heap.size X w' from by
  refine(HAS.out X hX).mono ?_
  rintro e w' ⟨hb,⟨h0,he⟩|⟨h0,h1,he⟩|⟨h0,h1,ca,c,he,hf⟩⟩
  ·exfalso;rw[zIJ]at hr0;exact h0 hr0
  ·exfalso
   rcases zIB hr0 with⟨_,k⟩|⟨k,_⟩
   ·rw[k]at hv;cases hv
   ·exact k h1
  ·rw[hC];exact⟨⟨ca,c,he,hf⟩,hb⟩)
 have HCF:=hid (fun(f:FitT) (hf:f∈C)=>show zCL (zAC M) f.1∧f.2.length=f.1.length∧f.1.length<=10 from by
  rw[hC]at hf
  have hf1:=((zPT hr0).1 hf).1
  obtain⟨k1,k2,_⟩:=zEP hok hyl hmil hf1
  have:=(zKN (show f∈allF M Y by rw[zNJ hc10];exact hf1)).2.2
  exact⟨k1,k2,by omega⟩)
 have hCl:C.length<=11264:=by
  have h2:C.length<=(zBM M Y 10).length:=by
   rw[hC];unfold zKH
   rw[(zJV _).length_eq]
   exact scan_len _
  have h3:=zFD M Y (zAC M) (min (min 10 (zAC M)) M.length+1)
  have h4:zBM M Y 10=zBX M Y (zAC M) (min (min 10 (zAC M)) M.length+1):=rfl
  rw[h4]at h2
  have h5:(min (min 10 (zAC M)) M.length+1)*2 ^ zAC M<=11*2 ^ 10:=Nat.mul_le_mul (by omega) (Nat.pow_le_pow_right (by decide) hc10)
  omega
 obtain⟨W,hW⟩:=exq (zAC M)
 obtain⟨vn,hvn⟩:=exq ((valF M Y).1)
 obtain⟨vd,hvd⟩:=exq ((valF M Y).2)
 have HPI:=hid (fun(X:World) (hX:Below w.heap.size w X) (us ur:Value) (f:FitT) (hd:HdF X us ur f) (hf:f∈C)=>qpicture_c X a n cap M W (.slice a2 n2 cap2) us ur f hn (by omega) hW (by omega) (by omega) (H.below hX) hd (by rw[hW];exact(HCF.out f hf).1) (HCF.out f hf).2.1 (HCF.out f hf).2.2 a2 n2 cap2 rfl)
 have HPP:=hid (show ∀ca c e w',e=.returned (.tuple #[.slice ca C.length c,.int .i64 0])->zHS w' ca (C.map (sprF W))->CorP M Y e w' from fun ca c e w' he hp=>⟨ca,c,by rw[hv,hce,List.length_map];exact he,by rw[hce,List.length_map];exact hCl,by rw[hce,<- hW];exact hp⟩)
 rw[<- hvn,<- hvd]at HAS1
 have HW10:=hid (show W<=10 by omega)
 have HCL:=hid hCl
 clear hn hn2 H H2 hv hr0 ho hok hyl hmil hM h1 h6 hc1 hc10 hC hce hW hvn hvd HAS HCF
 go_enter Tryz.func37,Tryz.ntmps37
 go_upto_region 2 with (go_at_call 73;refine(HAS1.out _ (Below.refl _ _)).mono ?_;rintro e w1 ⟨⟨ca,cc,rfl,hfa⟩,hb1⟩;have HB1:=hid hb1;have HFA:=hid hfa;clear hb1 hfa;refine Stop.of ?_)
 refine Stop.go ?_
 go_upto_region 2 with fail
 obtain⟨ab,hab⟩:=exq (w1.heap.size)
 obtain⟨X,hX⟩:=exq (w1.alloc (.cells #[.slice a n cap,.slice a2 n2 cap2,.int .i64 vn,.int .i64 vd,.slice ca C.length cc] 89))
 rw[<- hab,<- hX]
 have hA0:AnsB X ab (.slice a n cap) (.slice a2 n2 cap2) (vn,vd) (.slice ca C.length cc):=by rw[hX,hab];exact World.alloc_heap_new _ _
 have hB1X:Below w1.heap.size w1 X:=by rw[hX];exact(Below.refl _ _).alloc (Nat.le_refl _) _
 have HBX:=hid (zAA HB1.out hB1X)
 have HFX:=hid (HFA.out.below hB1X)
 have HA0:=hid hA0
 obtain⟨_,_,_,_,c4,_⟩:=hA0.cells
 clear hA0 hab hX hB1X
 go_wp2
 clear c4
 go_loopw [8,20] (fun v i wr=>∃k:Nat,k<=C.length∧i=.int .i64 k∧TabQ wr X.heap.size v ((C.map (sprF W)).take k)∧Below X.heap.size X wr) (fun _ i _=>C.length-(intOf i).toNat)
 case atStart=>exact⟨0,Nat.zero_le _,rfl,TabQ.nil _ _,Below.refl _ _⟩
 case round=>
  obtain⟨k,hk,rfl,hT,hbk⟩:=hrel
  by_cases hlt:k<C.length
  ·obtain⟨b,off,us,ur,rfl,hb,q0,q1,hd⟩:=HFX.out.hd hlt
   obtain⟨pa,pn,pc,va,vn',vc,rfl,rfl,_⟩:=id hd
   have q0':wr.cell? ⟨b,off+k*2,none⟩=some (.slice pa pn pc):=(hbk.cell (p:=⟨b,_,none⟩) hb).trans q0
   have q1':wr.cell? ⟨b,off+k*2+1,none⟩=some (.slice va vn' vc):=(hbk.cell (p:=⟨b,_,none⟩) hb).trans q1
   obtain⟨f,hf⟩:=exq (C[k])
   rw[<- hf]at hd
   have hfm:f∈C:=by rw[hf];exact List.getElem_mem hlt
   have HTK:=hid (show(C.map (sprF W)).take (k+1)=(C.map (sprF W)).take k++[sprF W f]by
    rw[List.take_succ_eq_append_getElem (by simp;exact hlt),List.getElem_map,hf])
   have i0:(0:Int)<=(k:Int):=by omega
   have i1:(k:Int)<(C.length:Int):=by omega
   have hk9:k<=11264:=by have:=HCL.out;omega
   have HD:=hid hd
   have HFM:=hid hfm
   have HTT:=hid hT
   have HBK:=hid hbk
   clear hd hf hfm hT hbk q0 q1 hb
   go_upto_region 6 with fail
   obtain⟨h,hh⟩:=exq (wr.heap.size)
   obtain⟨wh,hwh⟩:=exq (wr.alloc (.cells #[.slice pa pn pc,.slice va vn' vc] 73))
   rw[<- hh,<- hwh]
   have hbh:Below wr.heap.size wr wh:=by rw[hwh];exact(Below.refl _ _).alloc (Nat.le_refl _) _
   have hch:wh.heap[h]? =some (.cells #[.slice pa pn pc,.slice va vn' vc] 73 (0,0)):=by rw[hwh,hh];exact World.alloc_heap_new _ _
   have HBH:=hid (zAA HBK.out hbh)
   have HTH:=hid (HTT.out.below hbh)
   obtain⟨x0,x1,_⟩:=(HA0.out.keep (HBH.out.block _ HA0.out.lt)).cells
   have y0:wh.cell? ⟨h,0,none⟩=some (.slice pa pn pc):=by simp[World.cell?,hch]
   have y1:wh.cell? ⟨h,1,none⟩=some (.slice va vn' vc):=by simp[World.cell?,hch]
   have HDH:=hid (HD.out.below HBH.out)
   clear q0' q1' hh hwh hch hbh HTT HBK
   go_upto_region 7 with (go_at_call 99;refine(HPI.out _ (zAA HBX.out HBH.out) _ _ f HDH.out HFM.out).mono ?_;rintro e w3 ⟨g,rfl,hg,hrb,hb3⟩;refine Stop.of ?_)
   refine Stop.go ?_
   have hT3:=HTH.out.below hb3
   obtain⟨ta,tc,hte⟩:=hT3.slice
   subst hte
   obtain⟨xs,hoo,hoe⟩:=hT3
   have hq:((C.map (sprF W)).take k).length=k:=by simp;omega
   rw[hq]at hoo⊢
   have HRO:=hid (zEN.own (base:=X.heap.size) (hrb.own (zFZ W f) (show W<=maxLen by have:=HW10.out;unfold maxLen;omega) (Nat.le_refl g)))
   have HOO:=hid hoo
   have HOE:=hid hoe
   have HQ:=hid hq
   have HB3:=hid (zAA HBH.out hb3)
   have HNW:=hid (zBT w3 (.slice (some ⟨g,0,none⟩) W W) 42)
   have M1:=hid (show k+1<=maxLen by unfold maxLen;omega)
   have M2:=hid (show(k+1)*24<=140737488355328 by omega)
   have M3:=hid (Nat.le_trans HB3.out.size (zCH w3 (.cells #[.slice (some ⟨g,0,none⟩) W W] 42)))
   have HONE:=hid (show ∀u∈[Value.slice (some ⟨g,0,none⟩) W W],u.oneCell'=true from fun u hu=>by simp at hu;subst hu;rfl)
   clear hoo hoe hq hb3 hrb hg x0 x1 y0 y1
   go_wp2_with (at_builtin;refine zAQ _ rfl (.tmp 24) (.tmp 29) 54 rfl X.heap.size 42 (.slice none 0 0) 1 24 Tryz.underlying54 info_pics rfl (by decide) (.slice ta k tc) k xs rfl (HOO.out.alloc _) (some ⟨w3.heap.size,0,none⟩) 1 1 [.slice (some ⟨g,0,none⟩) W W] rfl rfl zCD HNW.out HONE.out M1.out M2.out M3.out ?_;intro a9 c9 w9 own9 g9;refine Stop.of ?_)
   refine Stop.go ?_
   have hb39:Below w3.heap.size w3 (w3.alloc (.cells #[.slice (some ⟨g,0,none⟩) W W] 42)):=(Below.refl _ _).alloc (Nat.le_refl _) _
   have HSN:=hid (TabQ.snoc (L:=(C.map (sprF W)).take k) (by rw[HQ.out];exact HOO.out) HOE.out hb39 (HRO.out.below hb39) g9 (by rw[HQ.out];exact own9))
   have HB9:=hid (show Below X.heap.size X w9 from(HB3.out.alloc HB3.out.size _).grown g9 M3.out (fun g hg=>(HOO.out.lt g hg).1))
   clear own9 g9 hb39
   go_wp2
   refine⟨⟨k+1,by omega,by go_num,?_,HB9.out⟩,by simp[intOf];omega⟩
   rw[HTK.out];exact HSN.out
  ·obtain rfl:k=C.length:=by omega
   rw[List.take_of_length_le (by simp)]at hT
   obtain⟨ta,tc,hte⟩:=hT.slice
   rw[List.length_map]at hte
   subst hte
   obtain⟨h1,h2,h3⟩:=hT.reads
   have HP3:=hid h3
   have HBK:=hid (zAA HBX.out hbk)
   have i1:¬((C.length:Int)<(C.length:Int)):=by omega
   clear hT hbk h1 h2 h3
   go_wp2
   go_ret2
   exact⟨HPP.out ta tc _ _ rfl HP3.out,HBK.out⟩
end
section
open Go.RowKit
theorem corn_span{M:Mask}{y:List Int}(hv:(valE M y).2=0){P:Nat}(hP:P<zAC M):0<(zBO M y).length∧(∀k (hk:k<(zBO M y).length),P<(zBO M y)[k].length)∧∀k:Nat,F2 (zAB ((zBO M y)[k]?.getD []) P):=by
 have hr:=(zJR hv).1
 have hx:∀x∈zBO M y,x.length=zAC M∧x.all zAH=true:=fun x hx=>by
  obtain⟨h1,f,_,rfl⟩:=zOK hr hv hx
  refine⟨zFZ _ _,?_⟩
  unfold zDK at h1
  split at h1
  ·rename_i h;exact h.2
  ·cases h1
 refine⟨List.length_pos_iff.2 (zOJ hr hv),fun k hk=>by rw[(hx _ (List.getElem_mem hk)).1];exact hP,fun k=>?_⟩
 cases e:(zBO M y)[k]? with
 |none=>
  show F2 (zAB [] P)
  unfold F2 F64 zAB
  simp
 |some x=>
  show F2 (zAB x P)
  obtain⟨a,b,c,d⟩:=zFY (hx x (List.mem_of_getElem? e)).2 P
  unfold F2 F64
  omega
theorem drange_c(w:World)(a a2:Option Addr)(n cap n2 cap2:Nat)(M:Mask)(Y:List Int)(hn:M.length=n)(hn2:Y.length=n2)(hm:n<=maxLen)(hm2:n2<=maxLen)(H:zAN w a M)(H2:zAI w a2 Y)(p:Int):
 Calls Tryz.prog 42 #[.slice a n cap,.slice a2 n2 cap2,.int .i64 p] w fun e w'=>e=.returned (.tuple #[ratV (zHQ M Y p).1,ratV (zHQ M Y p).2.1,.int .i64 (zHQ M Y p).2.2])∧Below w.heap.size w w':=by
 obtain⟨s,hs⟩:=exq (w.heap.size)
 obtain⟨wz,hwz⟩:=exq ((w.alloc (.cells #[.int .i64 0,.int .i64 0] 29)).alloc (.cells #[.int .i64 0,.int .i64 0] 29))
 have hbz:Below w.heap.size w wz:=by rw[hwz];exact((Below.refl _ _).alloc (Nat.le_refl _) _).alloc (by simp) _
 have qa:RatI wz s (0,0):=by
  rw[hwz,hs]
  exact(RatI.made w (0,0)).keep (Below.heap_alloc _ _ _ (by simp))
 have qb:RatI wz (s+1) (0,0):=by
  have h:=RatI.made (w.alloc (.cells #[.int .i64 0,.int .i64 0] 29)) (0,0)
  rw[World.size_alloc]at h
  rw[hwz,hs];exact h
 have HSW:=hid (show w.heap.size<=s by omega)
 have BK:=hid (show Below wz.heap.size wz (wz.alloc (.cells #[.int .i64 p] 3))from(Below.refl _ _).alloc (Nat.le_refl _) _)
 have hI:zAI (wz.alloc (.cells #[.int .i64 p] 3)) (some ⟨wz.heap.size,0,none⟩) [p]:=by
  intro j hj
  obtain rfl:j=0:=by simpa using hj
  exact⟨wz.heap.size,0,rfl,by simp,by rw[World.cell?_alloc_at _ _ _ _ rfl];rfl⟩
 have HCK:=hid (zKM (wz.alloc (.cells #[.int .i64 p] 3)) a a2 (some ⟨wz.heap.size,0,none⟩) n cap n2 cap2 1 1 M Y [p] hn hn2 rfl hm hm2 (by decide) (H.below (zAA hbz BK.out)) (H2.below (zAA hbz BK.out)) hI)
 have HCO:=hid (fun(X:World) (hX:Below w.heap.size w X)=>zOI X a a2 n cap n2 cap2 M Y hn hn2 hm hm2 (H.below hX) (H2.below hX))
 have HQ:=hid (fun(X:World) (hX:Below wz.heap.size wz X)=>And.intro (qa.keep (hX.block _ qa.lt)) (qb.keep (hX.block _ qb.lt)))
 have HBZ:=hid hbz
 obtain⟨R,hR⟩:=exq (zHQ M Y p)
 rw[<- hR]
 by_cases hck:zAU M Y [p]=0
 rotate_left
 ·have HR:=hid (show R=((0,0),(0,0),zAU M Y [p])by rw[hR];unfold zHQ;rw[if_pos hck])
  have hnf:(zAU M Y [p] !=0)=true:=by simpa using hck
  obtain⟨E,hE⟩:=exq (zAU M Y [p])
  rw[<- hE]at HCK HR hnf
  clear hn hn2 H H2 hR hbz qa qb hI
  clear hck hE HCO
  go_enter Tryz.func42,Tryz.ntmps42
  go_upto_region 1 with fail
  rw[<- hs,<- hwz]
  clear hs hwz
  go_upto_region 2 with (go_at_call 101;refine HCK.out.mono ?_;rintro e w1 ⟨rfl,hb1⟩;have HB1:=hid (zAA BK.out hb1);clear hb1;refine Stop.of ?_)
  refine Stop.go ?_
  have RLx:=hid ((HQ.out _ HB1.out).1)
  have RHx:=hid ((HQ.out _ HB1.out).2)
  have BWx:=hid (zAA HBZ.out HB1.out)
  obtain⟨a0,a1,a2',a3,a4⟩:=RLx.out.cells
  obtain⟨b0,b1,b2,b3,b4⟩:=RHx.out.cells
  have M2:=hid (RatI.set (p:=(0,0)) RLx.out)
  have M3:=hid (RHx.out.other (b:=s) (by omega) (.int .i64 0) (.int .i64 0))
  have N3:=hid (RatI.set (p:=(0,0)) M3.out)
  have N2:=hid (M2.out.other (b:=s+1) (by omega) (.int .i64 0) (.int .i64 0))
  have KN:=hid (zCQ (zCQ BWx.out HSW.out (.int .i64 0) (.int .i64 0)) (show w.heap.size<=s+1 by have:=HSW.out;omega) (.int .i64 0) (.int .i64 0))
  have k1:¬s+1=s:=by omega
  have k2:¬s=s+1:=by omega
  go_wp2
  clear a0 a1 a2' a3 a4 b0 b1 b2 b3 b4
  obtain⟨a0,a1,a2',a3,a4⟩:=N2.out.cells
  obtain⟨b0,b1,b2,b3,b4⟩:=N3.out.cells
  change bodyPost _ _ _ _ _ ((((w1.setCell ⟨s,0,none⟩ (.int .i64 0)).setCell ⟨s,1,none⟩ (.int .i64 0)).setCell ⟨s+1,0,none⟩ (.int .i64 0)).setCell ⟨s+1,1,none⟩ (.int .i64 0))
  generalize (((w1.setCell ⟨s,0,none⟩ (.int .i64 0)).setCell ⟨s,1,none⟩ (.int .i64 0)).setCell ⟨s+1,0,none⟩ (.int .i64 0)).setCell ⟨s+1,1,none⟩ (.int .i64 0)=WF at*
  refine bodyPost_ret (v:=.tuple #[.agg #[.int .i64 0,.int .i64 0],.agg #[.int .i64 0,.int .i64 0],.int .i64 E]) ?_ rfl ⟨by rw[HR.out]<;>rfl,KN.out⟩
  simp[results,Tryz.results42,go_sem,a0,a1,a2',a3,a4,b0,b1,b2,b3,b4]
 obtain⟨hok,_,_,hso⟩:=zFG hck
 have hpb:=hso.2 p (by simp)
 obtain⟨_,_,_,hc1,hc10⟩:=zDJ hok
 rw[hck]at HCK
 by_cases hv:(valE M Y).2=0
 rotate_left
 ·have HR:=hid (show R=((0,0),(0,0),(valE M Y).2)by rw[hR];unfold zHQ;rw[if_neg (fun h=>h hck),if_pos hv])
  have hnf:((valE M Y).2 !=0)=true:=by simpa using hv
  obtain⟨F,hF⟩:=exq ((valE M Y).2)
  obtain⟨K,hK⟩:=exq ((zBO M Y).length)
  have HCO0:=hid (fun(X:World) (hX:Below w.heap.size w X)=>show Calls Tryz.prog 37 #[.slice a n cap,.slice a2 n2 cap2] X fun e w'=>(∃ca c,e=.returned (.tuple #[.slice ca K c,.int .i64 F]))∧Below X.heap.size X w' from by
   refine(HCO.out X hX).mono ?_
   rintro e w' ⟨⟨ca,c,he,_⟩,hb⟩
   exact⟨⟨ca,c,by rw[he,hK,hF]⟩,hb⟩)
  rw[<- hF]at HR hnf
  clear hn hn2 H H2 hR hbz qa qb hI
  clear hv hF hK HCO
  go_enter Tryz.func42,Tryz.ntmps42
  go_upto_region 1 with fail
  rw[<- hs,<- hwz]
  clear hs hwz
  go_upto_region 2 with (go_at_call 101;refine HCK.out.mono ?_;rintro e w1 ⟨rfl,hb1⟩;have HB1:=hid (zAA BK.out hb1);clear hb1;refine Stop.of ?_)
  refine Stop.go ?_
  go_upto_region 5 with (go_at_call 37;refine(HCO0.out _ (zAA HBZ.out HB1.out)).mono ?_;rintro e w3 ⟨⟨ca,cc,rfl⟩,hb3⟩;have HB3:=hid (zAA HB1.out hb3);clear hb3;refine Stop.of ?_)
  refine Stop.go ?_
  have RLx:=hid ((HQ.out _ HB3.out).1)
  have RHx:=hid ((HQ.out _ HB3.out).2)
  have BWx:=hid (zAA HBZ.out HB3.out)
  obtain⟨a0,a1,a2',a3,a4⟩:=RLx.out.cells
  obtain⟨b0,b1,b2,b3,b4⟩:=RHx.out.cells
  have M2:=hid (RatI.set (p:=(0,0)) RLx.out)
  have M3:=hid (RHx.out.other (b:=s) (by omega) (.int .i64 0) (.int .i64 0))
  have N3:=hid (RatI.set (p:=(0,0)) M3.out)
  have N2:=hid (M2.out.other (b:=s+1) (by omega) (.int .i64 0) (.int .i64 0))
  have KN:=hid (zCQ (zCQ BWx.out HSW.out (.int .i64 0) (.int .i64 0)) (show w.heap.size<=s+1 by have:=HSW.out;omega) (.int .i64 0) (.int .i64 0))
  have k1:¬s+1=s:=by omega
  have k2:¬s=s+1:=by omega
  go_wp2
  clear a0 a1 a2' a3 a4 b0 b1 b2 b3 b4
  obtain⟨a0,a1,a2',a3,a4⟩:=N2.out.cells
  obtain⟨b0,b1,b2,b3,b4⟩:=N3.out.cells
  change bodyPost _ _ _ _ _ ((((w3.setCell ⟨s,0,none⟩ (.int .i64 0)).setCell ⟨s,1,none⟩ (.int .i64 0)).setCell ⟨s+1,0,none⟩ (.int .i64 0)).setCell ⟨s+1,1,none⟩ (.int .i64 0))
  generalize (((w3.setCell ⟨s,0,none⟩ (.int .i64 0)).setCell ⟨s,1,none⟩ (.int .i64 0)).setCell ⟨s+1,0,none⟩ (.int .i64 0)).setCell ⟨s+1,1,none⟩ (.int .i64 0)=WF at*
  refine bodyPost_ret (v:=.tuple #[.agg #[.int .i64 0,.int .i64 0],.agg #[.int .i64 0,.int .i64 0],.int .i64 F]) ?_ rfl ⟨by rw[HR.out]<;>rfl,KN.out⟩
  simp[results,Tryz.results42,go_sem,a0,a1,a2',a3,a4,b0,b1,b2,b3,b4]
 obtain⟨P,rfl⟩:∃P:Nat,p=(P:Int):=⟨p.toNat,by omega⟩
 have hPW:P<zAC M:=by omega
 obtain⟨g1,g2,g3⟩:=corn_span hv hPW
 obtain⟨L,hL⟩:=exq (zBO M Y)
 have HR:=hid (show R=((zDY L P).1,(zDY L P).2,0)by
  rw[hR,hL];unfold zHQ;rw[if_neg (fun h=>h hck),if_neg (fun h=>h hv)]
  rw[show((P:Int)).toNat=P by omega])
 have HCO1:=hid (fun(X:World) (hX:Below w.heap.size w X)=>show Calls Tryz.prog 37 #[.slice a n cap,.slice a2 n2 cap2] X fun e w'=>(∃ca c,e=.returned (.tuple #[.slice ca L.length c,.int .i64 0])∧L.length<=11264∧zHS w' ca L)∧Below X.heap.size X w' from by
  refine(HCO.out X hX).mono ?_
  rintro e w' ⟨⟨ca,c,he,h1,h2⟩,hb⟩
  rw[hL]
  exact⟨⟨ca,c,by rw[he,hv],h1,h2⟩,hb⟩)
 rw[<- hL]at g1 g2 g3
 obtain⟨lo,hlo⟩:=exq ((zDY L P).1)
 obtain⟨hi,hhi⟩:=exq ((zDY L P).2)
 have HSPN:=hid (fun(Z:World) (ca:Option Addr) (c:Nat) (h1:L.length<=11264) (h2:zHS Z ca L)=>show Calls Tryz.prog 102 #[.slice ca L.length c,.int .i64 P] Z fun e w'=>e=.returned (.tuple #[.agg #[.int .i64 lo.1,.int .i64 lo.2],.agg #[.int .i64 hi.1,.int .i64 hi.2]])∧Below Z.heap.size Z w' from by
  rw[hlo,hhi]
  exact dspan_c Z ca L.length c P L rfl g1 h1 (by omega) h2 g2 g3)
 rw[<- hlo,<- hhi]at HR
 clear hn hn2 H H2 hR hbz qa qb hI
 clear hv hL g1 g2 g3 hlo hhi HCO hPW
 go_enter Tryz.func42,Tryz.ntmps42
 go_upto_region 1 with fail
 rw[<- hs,<- hwz]
 clear hs hwz
 go_upto_region 2 with (go_at_call 101;refine HCK.out.mono ?_;rintro e w1 ⟨rfl,hb1⟩;have HB1:=hid (zAA BK.out hb1);clear hb1;refine Stop.of ?_)
 refine Stop.go ?_
 go_upto_region 5 with (go_at_call 37;refine(HCO1.out _ (zAA HBZ.out HB1.out)).mono ?_;rintro e w3 ⟨⟨ca,cc,rfl,hl3,hp3⟩,hb3⟩;have HB3:=hid (zAA HB1.out hb3);have HP3:=hid hp3;have HL3:=hid hl3;clear hb3 hp3 hl3;refine Stop.of ?_)
 refine Stop.go ?_
 go_upto_region 8 with (go_at_call 102;refine(HSPN.out _ _ _ HL3.out HP3.out).mono ?_;rintro e w5 ⟨rfl,hb5⟩;have HB5:=hid (zAA HB3.out hb5);clear hb5;refine Stop.of ?_)
 refine Stop.go ?_
 clear HSPN HP3 HCO1
 have RLx:=hid ((HQ.out _ HB5.out).1)
 have RHx:=hid ((HQ.out _ HB5.out).2)
 have BWx:=hid (zAA HBZ.out HB5.out)
 obtain⟨a0,a1,a2',a3,a4⟩:=RLx.out.cells
 obtain⟨b0,b1,b2,b3,b4⟩:=RHx.out.cells
 have M2:=hid (RatI.set (p:=lo) RLx.out)
 have M3:=hid (RHx.out.other (b:=s) (by omega) (.int .i64 lo.1) (.int .i64 lo.2))
 have N3:=hid (RatI.set (p:=hi) M3.out)
 have N2:=hid (M2.out.other (b:=s+1) (by omega) (.int .i64 hi.1) (.int .i64 hi.2))
 have KN:=hid (zCQ (zCQ BWx.out HSW.out (.int .i64 lo.1) (.int .i64 lo.2)) (show w.heap.size<=s+1 by have:=HSW.out;omega) (.int .i64 hi.1) (.int .i64 hi.2))
 have k1:¬s+1=s:=by omega
 have k2:¬s=s+1:=by omega
 go_upto_region 8 with fail
 clear a0 a1 a2' a3 a4 b0 b1 b2 b3 b4
 obtain⟨wy,hwy⟩:=exq ((((w5.setCell ⟨s,0,none⟩ (.int .i64 lo.1)).setCell ⟨s,1,none⟩ (.int .i64 lo.2)).setCell ⟨s+1,0,none⟩ (.int .i64 hi.1)).setCell ⟨s+1,1,none⟩ (.int .i64 hi.2))
 rw[<- hwy]at N2 N3 KN⊢
 clear hwy M2 M3 RLx RHx BWx
 refine zAF (fun j X=>wAll j=true->X.cell? ⟨s,0,none⟩=some (.int .i64 lo.1)∧X.cell? ⟨s,1,none⟩=some (.int .i64 lo.2)∧X.cell? ⟨s+1,0,none⟩=some (.int .i64 hi.1)∧X.cell? ⟨s+1,1,none⟩=some (.int .i64 hi.2)) (by kernel_rfl) ?_
 have hbd:Below wy.heap.size wy wy.drew:=(Below.refl _ _).drew
 have G2:=hid (N2.out.keep (hbd.block _ N2.out.lt))
 have G3:=hid (N3.out.keep (hbd.block _ N3.out.lt))
 have KD:=hid (KN.out.drew)
 generalize wy.drew=wd at G2 G3 KD⊢
 obtain⟨a0,a1,a2',a3,a4⟩:=G2.out.cells
 obtain⟨b0,b1,b2,b3,b4⟩:=G3.out.cells
 have hS:wd.cell? ⟨s,0,none⟩=some (.int .i64 lo.1)∧wd.cell? ⟨s,1,none⟩=some (.int .i64 lo.2)∧wd.cell? ⟨s+1,0,none⟩=some (.int .i64 hi.1)∧wd.cell? ⟨s+1,1,none⟩=some (.int .i64 hi.2):=⟨a0,a1,b0,b1⟩
 refine AnyT.tD (i:=0) (v:=.agg #[.int .i64 lo.1,.int .i64 lo.2]) rfl rfl (by rintro w' ⟨x1,x2,x3,x4⟩;go_simp) hS ?_;go_frame
 refine AnyT.tD (i:=1) (v:=.agg #[.int .i64 hi.1,.int .i64 hi.2]) rfl rfl (by rintro w' ⟨x1,x2,x3,x4⟩;go_simp) hS ?_;go_frame
 have M2:=hid (RatI.set (p:=lo) G2.out)
 have M3:=hid (G3.out.other (b:=s) (by omega) (.int .i64 lo.1) (.int .i64 lo.2))
 refine AnyT.nx (i:=2) rfl ?_
 go_wp2
 clear a0 a1 a2' a3 a4 b0 b1 b2 b3 b4 hS
 obtain⟨a0,a1,a2',a3,a4⟩:=M2.out.cells
 obtain⟨b0,b1,b2,b3,b4⟩:=M3.out.cells
 refine⟨fun _=>⟨a0,a1,b0,b1⟩,?_⟩
 have N3:=hid (RatI.set (p:=hi) M3.out)
 have N2:=hid (M2.out.other (b:=s+1) (by omega) (.int .i64 hi.1) (.int .i64 hi.2))
 have KN:=hid (zCQ (zCQ KD.out HSW.out (.int .i64 lo.1) (.int .i64 lo.2)) (show w.heap.size<=s+1 by have:=HSW.out;omega) (.int .i64 hi.1) (.int .i64 hi.2))
 refine AnyT.nx (i:=3) rfl ?_
 go_wp2
 clear a0 a1 a2' a3 a4 b0 b1 b2 b3 b4
 obtain⟨a0,a1,a2',a3,a4⟩:=N2.out.cells
 obtain⟨b0,b1,b2,b3,b4⟩:=N3.out.cells
 refine⟨fun _=>⟨a0,a1,b0,b1⟩,?_⟩
 refine AnyT.nx (i:=4) rfl ?_
 go_wp2
 refine⟨fun _=>⟨a0,a1,b0,b1⟩,?_⟩
 refine AnyT.done (by kernel_rfl) ?_ _
 go_wp2
 change bodyPost _ _ _ _ _ ((((wd.setCell ⟨s,0,none⟩ (.int .i64 lo.1)).setCell ⟨s,1,none⟩ (.int .i64 lo.2)).setCell ⟨s+1,0,none⟩ (.int .i64 hi.1)).setCell ⟨s+1,1,none⟩ (.int .i64 hi.2))
 generalize (((wd.setCell ⟨s,0,none⟩ (.int .i64 lo.1)).setCell ⟨s,1,none⟩ (.int .i64 lo.2)).setCell ⟨s+1,0,none⟩ (.int .i64 hi.1)).setCell ⟨s+1,1,none⟩ (.int .i64 hi.2)=WF at*
 refine bodyPost_ret (v:=.tuple #[.agg #[.int .i64 lo.1,.int .i64 lo.2],.agg #[.int .i64 hi.1,.int .i64 hi.2],.int .i64 0]) ?_ rfl ⟨by rw[HR.out]<;>rfl,KN.out⟩
 simp[results,Tryz.results42,go_sem,a0,a1,a2',a3,a4,b0,b1,b2,b3,b4]
end
section
open Go.RowKit
theorem sameRats_c(w:World)(a a2:Option Addr)(n cap n2 cap2:Nat)(x y:List Rt)(hn:x.length=n)(hn2:y.length=n2)(hm:n<=maxLen)(hm2:n2<=maxLen)(H:zBE w a x)(H2:zBE w a2 y):
 Calls Tryz.prog 35 #[.slice a n cap,.slice a2 n2 cap2] w fun e w'=>e=.returned (.bool (decide (x=y)))∧Below w.heap.size w w':=by
 unfold maxLen at hm hm2
 obtain⟨E,hE⟩:=exq (decide (x=y))
 rw[<- hE]
 by_cases hl:n=n2
 rotate_left
 ·have hd:((n:Int) !=(n2:Int))=true:=by simp;omega
  have HE:=hid (show E=false from by rw[hE];exact decide_eq_false (fun h=>hl (by rw[<- hn,<- hn2,h])))
  clear hn hn2 H H2 hE hl
  go_enter Tryz.func35,Tryz.ntmps35
  go_wp2
  go_ret
  exact⟨by rw[HE.out]<;>rfl,Below.refl _ _⟩
 subst hl
 have hd:((n:Int) !=(n:Int))=false:=by simp
 have HYES:=hid (fun(h:∀j,j<n->x[j]? =y[j]?)=>show E=true from by
  rw[hE]
  refine decide_eq_true (List.ext_getElem? fun j=>?_)
  rcases Nat.lt_or_ge j n with k|k
  ·exact h j k
  ·rw[List.getElem?_eq_none (by omega),List.getElem?_eq_none (by omega)])
 have HNO:=hid (fun(j:Nat) (h:x[j]? ≠y[j]?)=>show E=false from by
  rw[hE];exact decide_eq_false (fun k=>h (by rw[k])))
 have HXI:=hid (fun(j:Nat) (hj:j<n)=>show ∃b off r,a=some ⟨b,off,none⟩∧x[j]? =some r∧∀Z:World,Below w.heap.size w Z->Z.cell? ⟨b,off+j*2,none⟩=some (.int .i64 r.1)∧Z.cell? ⟨b,off+j*2+1,none⟩=some (.int .i64 r.2)from by
  obtain⟨b,off,e,hb,c0,c1⟩:=H j (by omega)
  exact⟨b,off,x[j]'(by omega),e,List.getElem?_eq_getElem (by omega),fun Z hZ=>⟨(hZ.cell (p:=⟨b,_,none⟩) hb).trans c0,(hZ.cell (p:=⟨b,_,none⟩) hb).trans c1⟩⟩)
 have HYI:=hid (fun(j:Nat) (hj:j<n)=>show ∃b off r,a2=some ⟨b,off,none⟩∧y[j]? =some r∧∀Z:World,Below w.heap.size w Z->Z.cell? ⟨b,off+j*2,none⟩=some (.int .i64 r.1)∧Z.cell? ⟨b,off+j*2+1,none⟩=some (.int .i64 r.2)from by
  obtain⟨b,off,e,hb,c0,c1⟩:=H2 j (by omega)
  exact⟨b,off,y[j]'(by omega),e,List.getElem?_eq_getElem (by omega),fun Z hZ=>⟨(hZ.cell (p:=⟨b,_,none⟩) hb).trans c0,(hZ.cell (p:=⟨b,_,none⟩) hb).trans c1⟩⟩)
 clear hn hn2 H H2 hE
 go_enter Tryz.func35,Tryz.ntmps35
 go_wp2
 go_loopw [13] (fun i wr=>∃k:Nat,k<=n∧i=.int .i64 k∧Below w.heap.size w wr∧Hid (∀j,j<k->x[j]? =y[j]?)) (fun i _=>n-(intOf i).toNat)
 case atStart=>exact⟨0,Nat.zero_le _,rfl,Below.refl _ _,hid fun j hj=>by omega⟩
 case round=>
  obtain⟨k,hk,rfl,hbk,HK⟩:=hrel
  have HBK:=hid hbk
  by_cases hlt:k<n
  ·obtain⟨b,off,⟨x1,x2⟩,rfl,ex,hx⟩:=HXI.out k hlt
   obtain⟨b2,off2,⟨y1,y2⟩,rfl,ey,hy⟩:=HYI.out k hlt
   have HX:=hid hx
   have HY:=hid hy
   have HNE:=hid (fun(h:¬((x1,x2):Rt)=(y1,y2))=>HNO.out k (by rw[ex,ey];intro e;exact h (Option.some.inj e)))
   have HEQ:=hid (fun(h:((x1,x2):Rt)=(y1,y2))=>show ∀j,j<k+1->x[j]? =y[j]? from fun j hj=>by
    rcases Nat.lt_or_ge j k with c|c
    ·exact HK.out j c
    ·obtain rfl:j=k:=by omega
     rw[ex,ey,h])
   have i0:(0:Int)<=(k:Int):=by omega
   have i1:(k:Int)<(n:Int):=by omega
   have HS:=hid (fun(Z:World) (hZ:Below wr.heap.size wr Z)=>And.intro (HX.out Z (zAA HBK.out hZ)) (HY.out Z (zAA HBK.out hZ)))
   clear ex ey hx hy hbk
   go_upto_region 6 with fail
   refine zAF (fun j' Z=>wAll j'=true->(Z.cell? ⟨b,off+k*2,none⟩=some (.int .i64 x1)∧Z.cell? ⟨b,off+k*2+1,none⟩=some (.int .i64 x2))∧Z.cell? ⟨b2,off2+k*2,none⟩=some (.int .i64 y1)∧Z.cell? ⟨b2,off2+k*2+1,none⟩=some (.int .i64 y2)) (by kernel_rfl) ?_
   have hbd:Below wr.heap.size wr wr.drew:=(Below.refl _ _).drew
   generalize wr.drew=wd at hbd⊢
   have HBD:=hid hbd
   clear hbd
   refine AnyT.tD (i:=0) (v:=.slice (some ⟨b,off,none⟩) n cap) rfl rfl (by rintro w' ⟨⟨q0,q1⟩,q2,q3⟩;go_simp) (HS.out _ HBD.out) ?_;go_frame
   refine AnyT.tD (i:=1) (v:=.int .i64 k) rfl rfl (by rintro w' ⟨⟨q0,q1⟩,q2,q3⟩;go_simp) (HS.out _ HBD.out) ?_;go_frame
   refine AnyT.tD (i:=2) (v:=.pointer (some ⟨b,off+k*2,none⟩)) rfl rfl (by rintro w' ⟨⟨q0,q1⟩,q2,q3⟩;go_simp) (HS.out _ HBD.out) ?_;go_frame
   refine AnyT.tD (i:=3) (v:=.agg #[.int .i64 x1,.int .i64 x2]) rfl rfl (by rintro w' ⟨⟨q0,q1⟩,q2,q3⟩;go_simp) (HS.out _ HBD.out) ?_;go_frame
   refine AnyT.tD (i:=4) (v:=.slice (some ⟨b2,off2,none⟩) n cap2) rfl rfl (by rintro w' ⟨⟨q0,q1⟩,q2,q3⟩;go_simp) (HS.out _ HBD.out) ?_;go_frame
   refine AnyT.tD (i:=5) (v:=.int .i64 k) rfl rfl (by rintro w' ⟨⟨q0,q1⟩,q2,q3⟩;go_simp) (HS.out _ HBD.out) ?_;go_frame
   refine AnyT.tD (i:=6) (v:=.pointer (some ⟨b2,off2+k*2,none⟩)) rfl rfl (by rintro w' ⟨⟨q0,q1⟩,q2,q3⟩;go_simp) (HS.out _ HBD.out) ?_;go_frame
   refine AnyT.tD (i:=7) (v:=.agg #[.int .i64 y1,.int .i64 y2]) rfl rfl (by rintro w' ⟨⟨q0,q1⟩,q2,q3⟩;go_simp) (HS.out _ HBD.out) ?_;go_frame
   by_cases c1:x1=y1
   ·by_cases c2:x2=y2
    ·subst c1
     subst c2
     have HE:=hid (HEQ.out rfl)
     refine AnyT.nx (i:=8) rfl ?_
     go_wp2
     refine⟨fun _=>HS.out _ HBD.out,?_⟩
     refine AnyT.done (by kernel_rfl) ?_ _
     go_wp2
     exact⟨⟨k+1,by omega,by go_num,zAA HBK.out HBD.out,HE⟩,by simp[intOf];omega⟩
    ·have HE:=hid (HNE.out (fun h=>c2 (by cases h;rfl)))
     have c2':(x2==y2)=false:=by simpa using c2
     subst c1
     refine AnyT.nx (i:=8) rfl ?_
     go_wp2
     refine⟨fun _=>HS.out _ HBD.out,?_⟩
     refine AnyT.done (by kernel_rfl) ?_ _
     go_wp2
     go_ret
     exact⟨by rw[HE.out]<;>rfl,zAA HBK.out HBD.out⟩
   ·have HE:=hid (HNE.out (fun h=>c1 (by cases h;rfl)))
    have c1':(x1==y1)=false:=by simpa using c1
    refine AnyT.nx (i:=8) rfl ?_
    go_wp2
    refine⟨fun _=>HS.out _ HBD.out,?_⟩
    refine AnyT.done (by kernel_rfl) ?_ _
    go_wp2
    go_ret
    exact⟨by rw[HE.out]<;>rfl,zAA HBK.out HBD.out⟩
  ·obtain rfl:k=n:=by omega
   have HE:=hid (HYES.out HK.out)
   have i1:¬((k:Int)<(k:Int)):=by omega
   clear hbk
   go_wp2
   go_ret
   exact⟨by rw[HE.out]<;>rfl,HBK.out⟩
end
section
open Go.RowKit
theorem sameFit_y(w:World)(ia ib ra rb:Option Addr)(k ic jc m rc sc:Nat)(p:List Int)(x:List Rt)(hp:p.length=k)(hx:x.length=m)(hk:k<=maxLen)(hm:m<=maxLen)(H1:zAI w ia p)(H2:zAI w ib p)(H3:zBE w ra x)(H4:zBE w rb x):
 Calls Tryz.prog 117 #[.agg #[.slice ia k ic,.slice ra m rc],.agg #[.slice ib k jc,.slice rb m sc]] w fun e w'=>e=.returned (.bool true)∧Below w.heap.size w w':=by
 have HSI:=hid (fun(X:World) (hX:Below w.heap.size w X)=>show Calls Tryz.prog 46 #[.slice ia k ic,.slice ib k jc] X fun e w'=>e=.returned (.bool true)∧∃q,w'=X.drewN q from by
  have h:=sameInts_c X ia ib k ic k jc p p hp hp hk hk (H1.below hX) (H2.below hX)
  rw[decide_eq_true rfl]at h
  exact h)
 have HSR:=hid (fun(X:World) (hX:Below w.heap.size w X)=>show Calls Tryz.prog 35 #[.slice ra m rc,.slice rb m sc] X fun e w'=>e=.returned (.bool true)∧Below X.heap.size X w' from by
  have h:=sameRats_c X ra rb m rc m sc x x hx hx hm hm (H3.below hX) (H4.below hX)
  rw[decide_eq_true rfl]at h
  exact h)
 clear hp hx hk hm H1 H2 H3 H4
 go_enter Tryz.func117,Tryz.ntmps117
 go_upto_region 1 with fail
 obtain⟨w1,h1⟩:=exq (w.alloc (.cells #[.slice ia k ic,.slice ra m rc] 73))
 obtain⟨g,hg⟩:=exq (w.heap.size)
 rw[<- h1,<- hg]
 obtain⟨w2,h2⟩:=exq (w1.alloc (.cells #[.slice ib k jc,.slice rb m sc] 73))
 obtain⟨g2,hg2⟩:=exq (g+1)
 rw[<- h2,<- hg2]
 have hs2:g2=w1.heap.size:=by rw[hg2,hg,h1];simp
 have b1:Below w.heap.size w w1:=by rw[h1];exact(Below.refl _ _).alloc (Nat.le_refl _) _
 have b2:Below w1.heap.size w1 w2:=by rw[h2];exact(Below.refl _ _).alloc (Nat.le_refl _) _
 have q1:w1.heap[g]? =some (.cells #[.slice ia k ic,.slice ra m rc] 73 (0,0)):=by rw[h1,hg];exact World.alloc_heap_new _ _
 have q2:w2.heap[g2]? =some (.cells #[.slice ib k jc,.slice rb m sc] 73 (0,0)):=by rw[h2,hs2];exact World.alloc_heap_new _ _
 have q12:w2.heap[g]? =some (.cells #[.slice ia k ic,.slice ra m rc] 73 (0,0)):=(b2.block g (Array.getElem?_eq_some_iff.1 q1).1).trans q1
 have HB2:=hid (zAA b1 b2)
 have HQ:=hid (fun(X:World) (hX:Below w2.heap.size w2 X)=>And.intro ((hX.block g (Array.getElem?_eq_some_iff.1 q12).1).trans q12) ((hX.block g2 (Array.getElem?_eq_some_iff.1 q2).1).trans q2))
 clear h1 hg h2 hg2 hs2 b1 b2 q1
 obtain⟨z0,z1,_⟩:=zBN q12
 obtain⟨y0,y1,_⟩:=zBN q2
 clear q12 q2
 go_wp2_with (go_at_call 46;refine(HSI.out _ HB2.out).mono ?_;rintro e w3 ⟨rfl,q,hw3⟩;have HB3:=hid (show Below w2.heap.size w2 w3 by rw[hw3];exact zAJ (Below.refl _ _) q);clear hw3;refine Stop.of ?_)
 refine Stop.go ?_
 obtain⟨q1,q2⟩:=HQ.out _ HB3.out
 clear z0 z1 y0 y1
 obtain⟨z0,z1,_⟩:=zBN q1
 obtain⟨y0,y1,_⟩:=zBN q2
 clear q1 q2
 go_wp2_with (go_at_call 35;refine(HSR.out _ (zAA HB2.out HB3.out)).mono ?_;rintro e w4 ⟨rfl,hb4⟩)
 go_ret
 exact⟨rfl,zAA HB2.out (zAA HB3.out hb4)⟩
theorem isFit_y(w:World)(a a2 ia ra:Option Addr)(n cap n2 cap2 k ic m rc:Nat)(M:Mask)(y:List Int)(f:FitT)(hn:M.length=n)(hn2:y.length=n2)(hm:n<=maxLen)(hm2:n2<=maxLen)(H:zAN w a M)(H2:zAI w a2 y)
 (hk:f.1.length=k)(hk2:k<=1000)(hl:f.2.length=m)(hl2:m<=maxLen)(HI:zAI w ia f.1)(HR:zBE w ra f.2)
 (hrd:rdE M y=0)(hok:okM M=true)(hna:zDA (zAC M) f.1=0)(hf:fitF M y f.1=some f):
 Calls Tryz.prog 58 #[.slice a n cap,.slice a2 n2 cap2,.agg #[.slice ia k ic,.slice ra m rc]] w fun e w'=>e=.returned (.bool true)∧Below w.heap.size w w':=by
 have HRE:=hid (fun(X:World) (hX:Below w.heap.size w X)=>show Calls Tryz.prog 17 #[.slice a n cap,.slice a2 n2 cap2] X fun e w'=>e=.returned (.bool true)∧X=w' from by
  have h:=zMK X a a2 n cap n2 cap2 M y hn hn2 hm hm2 (H.below hX) (H2.below hX)
  rw[decide_eq_true hrd]at h
  exact h)
 have HNA:=hid (fun(X:World) (hX:Below w.heap.size w X)=>show Calls Tryz.prog 115 #[.slice a n cap,.slice ia k ic] X fun e w'=>e=.returned (.int .i64 0)∧∃q,w'=X.drewN q from by
  have h:=r3Named_c X a ia n cap k ic M f.1 hn hk (Nat.le_trans hk2 (by decide)) (H.below hX) (HI.below hX) hok
  rw[hna]at h
  exact h)
 have HFT:=hid (fun(X:World) (hX:Below w.heap.size w X)=>show Calls Tryz.prog 116 #[.slice a n cap,.slice a2 n2 cap2,.slice ia k ic] X fun e w'=>(∃ja ra2 jc rc2,e=.returned (.tuple #[.agg #[.slice ja k jc,.slice ra2 m rc2],.bool true])∧zAI w' ja f.1∧zBE w' ra2 f.2)∧Below X.heap.size X w' from by
  refine(r4fit_c X a a2 ia n cap n2 cap2 k ic M y f.1 hn hn2 hk hm hm2 hk2 (H.below hX) (H2.below hX) (HI.below hX)).mono ?_
  rintro e w' ⟨h,hb⟩
  rw[hf]at h
  rcases h with⟨h,_⟩|⟨g,us,ur,h,he,hi,hr⟩
  ·cases h
  ·cases h
   obtain⟨ua,un,uc,rfl,hul,hum,_⟩:=hi 0
   obtain⟨va,vn,vc,rfl,hvl,hvm,_⟩:=hr 0
   obtain rfl:un=k:=by omega
   obtain rfl:vn=m:=by omega
   exact⟨⟨ua,va,uc,vc,he,(hi 0).ints.2.2,(hr 0).rats.2.2⟩,hb⟩)
 have HSF:=hid (fun(X:World) (hX:Below w.heap.size w X) (ja ra2:Option Addr) (jc rc2:Nat) (h1:zAI X ja f.1) (h2:zBE X ra2 f.2)=>sameFit_y X ia ja ra ra2 k ic jc m rc rc2 f.1 f.2 hk hl (Nat.le_trans hk2 (by decide)) hl2 (HI.below hX) h1 (HR.below hX) h2)
 clear hn hn2 hm hm2 H H2 hk hk2 hl hl2 HI HR hrd hok hna hf
 go_enter Tryz.func58,Tryz.ntmps58
 go_upto_region 1 with fail
 obtain⟨w1,h1⟩:=exq (w.alloc (.cells #[.slice ia k ic,.slice ra m rc] 73))
 obtain⟨g,hg⟩:=exq (w.heap.size)
 rw[<- h1,<- hg]
 have b1:Below w.heap.size w w1:=by rw[h1];exact(Below.refl _ _).alloc (Nat.le_refl _) _
 have q1:w1.heap[g]? =some (.cells #[.slice ia k ic,.slice ra m rc] 73 (0,0)):=by rw[h1,hg];exact World.alloc_heap_new _ _
 have HB1:=hid b1
 have HQ:=hid (fun(X:World) (hX:Below w1.heap.size w1 X)=>(hX.block g (Array.getElem?_eq_some_iff.1 q1).1).trans q1)
 obtain⟨z0,z1,_⟩:=zBN q1
 clear h1 hg b1 q1
 go_wp2_with (go_at_call 17;refine(HRE.out _ HB1.out).mono ?_;rintro e w3 ⟨rfl,rfl⟩;refine Stop.of ?_)
 refine Stop.go ?_
 go_wp2_with (go_at_call 115;refine(HNA.out _ HB1.out).mono ?_;rintro e w3 ⟨rfl,q,hw3⟩;have HB3:=hid (show Below w1.heap.size w1 w3 by rw[hw3];exact zAJ (Below.refl _ _) q);clear hw3;refine Stop.of ?_)
 refine Stop.go ?_
 clear z0 z1
 obtain⟨z0,z1,_⟩:=zBN (HQ.out _ HB3.out)
 go_upto_region 4 with (go_at_call 116;refine(HFT.out _ (zAA HB1.out HB3.out)).mono ?_;rintro e w4 ⟨⟨ja,rb,jc,rd,rfl,hji,hjr⟩,hb4⟩;have HJI:=hid hji;have HJR:=hid hjr;have HB4:=hid (zAA HB3.out hb4);clear hji hjr hb4;refine Stop.of ?_)
 refine Stop.go ?_
 go_upto_region 4 with fail
 clear z0 z1
 obtain⟨w5,h5⟩:=exq (w4.alloc (.cells #[.slice ja k jc,.slice rb m rd] 73))
 obtain⟨g2,hg2⟩:=exq (w4.heap.size)
 rw[<- h5,<- hg2]
 have b5:Below w4.heap.size w4 w5:=by rw[h5];exact(Below.refl _ _).alloc (Nat.le_refl _) _
 have q5:w5.heap[g2]? =some (.cells #[.slice ja k jc,.slice rb m rd] 73 (0,0)):=by rw[h5,hg2];exact World.alloc_heap_new _ _
 have HB5:=hid (zAA HB4.out b5)
 have HBW:=hid (zAA HB1.out HB5.out)
 obtain⟨z0,z1,_⟩:=zBN (HQ.out _ HB5.out)
 obtain⟨y0,y1,_⟩:=zBN q5
 have HS:=hid (HSF.out w5 HBW.out ja rb jc rd (HJI.out.below b5) (HJR.out.below b5))
 clear h5 hg2 b5 q5
 go_wp2_with (go_at_call 117;refine HS.out.mono ?_;rintro e w6 ⟨rfl,hb6⟩)
 go_ret
 exact⟨rfl,zAA HBW.out hb6⟩
end
section
theorem set_eq{n:Nat}{S T:List Int}(hS:zCL n S)(hT:zCL n T)(h:∀j,j<n->((j:Int)∈S↔(j:Int)∈T)):S=T:=by
 refine List.Perm.eq_of_pairwise (le:=fun a b:Int=>a<b) (fun a b _ _ h1 h2=>by omega) hS.1 hT.1 ?_
 refine(List.perm_ext_iff_of_nodup ?_ ?_).2 fun a=>?_
 ·exact hS.1.imp (fun h=>by omega)
 ·exact hT.1.imp (fun h=>by omega)
 ·constructor
  ·intro ha
   have h1:=hS.2 a ha
   have h2:=h a.toNat (by omega)
   rw[show((a.toNat:Nat):Int)=a by omega]at h2
   exact h2.1 ha
  ·intro ha
   have h1:=hT.2 a ha
   have h2:=h a.toNat (by omega)
   rw[show((a.toNat:Nat):Int)=a by omega]at h2
   exact h2.2 ha
end
section
open Go.RowKit
def zDP(x:List Rt):Nat->List Int
 |0=>[]
 |t+1=>if (zAB x t).1=0 then zDP x t else zDP x t++[(t:Int)]
def zFL(x:List Rt):Nat->List Rt
 |0=>[]
 |t+1=>if (zAB x t).1=0 then zFL x t else zFL x t++[zAB x t]
theorem zDN(x:List Rt)(t:Nat):((zAB x t).1=0->zDP x (t+1)=zDP x t∧zFL x (t+1)=zFL x t)∧((zAB x t).1≠0->zDP x (t+1)=zDP x t++[(t:Int)]∧zFL x (t+1)=zFL x t++[zAB x t]):=
 ⟨fun h=>⟨if_pos h,if_pos h⟩,fun h=>⟨if_neg h,if_neg h⟩⟩
theorem zPD(x:List Rt)(z:Int):∀t,z∈zDP x t↔∃j:Nat,j<t∧z=(j:Int)∧(zAB x j).1≠0
 |0=>by
  constructor
  ·intro h;cases h
  ·rintro⟨j,hj,_⟩;omega
 |t+1=>by
  have ih:=zPD x z t
  show z∈(if (zAB x t).1=0 then zDP x t else zDP x t++[(t:Int)])↔_
  by_cases e:(zAB x t).1=0
  ·rw[if_pos e,ih]
   constructor
   ·rintro⟨j,h1,h2,h3⟩;exact⟨j,by omega,h2,h3⟩
   ·rintro⟨j,h1,h2,h3⟩
    by_cases c:j=t
    ·subst c;exact absurd e h3
    ·exact⟨j,by omega,h2,h3⟩
  ·rw[if_neg e,List.mem_append,ih]
   constructor
   ·rintro (⟨j,h1,h2,h3⟩|h)
    ·exact⟨j,by omega,h2,h3⟩
    ·exact⟨t,by omega,by simpa using h,e⟩
   ·rintro⟨j,h1,h2,h3⟩
    by_cases c:j=t
    ·subst c;exact .inr (by simpa using h2)
    ·exact .inl ⟨j,by omega,h2,h3⟩
theorem pixT_ok{n:Nat}(x:List Rt):∀t,t<=n->zCL n (zDP x t)
 |0,_=>⟨List.Pairwise.nil,fun y hy=>by cases hy⟩
 |t+1,ht=>by
  have ih:=pixT_ok (n:=n) x t (by omega)
  by_cases e:(zAB x t).1=0
  ·rw[((zDN x t).1 e).1];exact ih
  ·rw[((zDN x t).2 e).1]
   refine⟨List.pairwise_append.2 ⟨ih.1,List.pairwise_singleton _ _,fun a ha b hb=>?_⟩,fun y hy=>?_⟩
   ·obtain⟨j,h1,h2,_⟩:=(zPD x a t).1 ha
    have:b=(t:Int):=by simpa using hb
    omega
   ·rcases List.mem_append.1 hy with h|h
    ·exact ih.2 y h
    ·have:y=(t:Int):=by simpa using h
     omega
theorem val_map(x:List Rt):∀t,zFL x t=(zDP x t).map fun p=>zAB x p.toNat
 |0=>rfl
 |t+1=>by
  have ih:=val_map x t
  by_cases e:(zAB x t).1=0
  ·rw[((zDN x t).1 e).1,((zDN x t).1 e).2,ih]
  ·rw[((zDN x t).2 e).1,((zDN x t).2 e).2,ih,List.map_append];simp
theorem val_len(x:List Rt)(t:Nat):(zFL x t).length=(zDP x t).length:=by rw[val_map,List.length_map]
theorem zIR(x:List Rt):∀t,(zDP x t).length<=t
 |0=>Nat.le_refl _
 |t+1=>by
  have ih:=zIR x t
  by_cases e:(zAB x t).1=0
  ·rw[((zDN x t).1 e).1];omega
  ·rw[((zDN x t).2 e).1,List.length_append];simp;omega
theorem spr_back{M:Mask}{y:List Int}(h:rdE M y=0){f:FitT}(hf:f∈zBM M y 10):zDP (sprF (zAC M) f) (zAC M)=f.1∧zFL (sprF (zAC M) f) (zAC M)=f.2:=by
 obtain⟨hok,hy,hmil⟩:=zHV h
 obtain⟨hS,hl,hv,hnz,_⟩:=zGO hok hy hmil hf
 have e1:zDP (sprF (zAC M) f) (zAC M)=f.1:=by
  refine set_eq (pixT_ok _ _ (Nat.le_refl _)) hS fun j hj=>?_
  rw[zPD,<- hnz j hj]
  constructor
  ·rintro⟨i,h1,h2,h3⟩
   obtain rfl:i=j:=by omega
   exact h3
  ·intro h3;exact⟨j,hj,rfl,h3⟩
 refine⟨e1,?_⟩
 rw[val_map,e1]
 refine List.ext_getElem (by rw[List.length_map];exact hl.symm) fun i h1 h2=>?_
 rw[List.getElem_map,sprF_in hS (show i<f.1.length by omega)]
 unfold zAB
 rw[List.getElem?_eq_getElem h2];rfl
theorem named_ofC{W:Nat}{l:List Int}(h:zCL W l):zDA W l=0:=by
 have h1:ascB l=true:=by
  unfold ascB
  rw[decide_eq_true_eq]
  intro i hi
  rw[List.getElem?_eq_getElem (by omega),List.getElem?_eq_getElem (by omega)]
  exact List.pairwise_iff_getElem.1 h.1 i (i+1) (by omega) (by omega) (by omega)
 unfold zDA
 rw[if_pos h1,if_pos]
 rw[List.all_eq_true]
 intro p hp
 have:=h.2 p hp
 unfold inB;simp;omega
theorem corner_law{M:Mask}{y:List Int}(h:rdE M y=0)(hv:(valE M y).2=0){x:List Rt}(hx:x∈zBO M y):
 zDK M y x=(true,0)∧zCF M x y=true∧x.length=zAC M∧x.all zAH=true∧zDA (zAC M) (zDP x (zAC M))=0∧fitF M y (zDP x (zAC M))=some (zDP x (zAC M),zFL x (zAC M)):=by
 obtain⟨hl,f,hf,rfl⟩:=zOK h hv hx
 obtain⟨hok,hy,hmil⟩:=zHV h
 obtain⟨hS,_,hva,_⟩:=zGO hok hy hmil hf
 obtain⟨e1,e2⟩:=spr_back h hf
 refine⟨hl,spr_makes h hf,zFZ _ _,hva,?_,?_⟩
 ·rw[e1];exact named_ofC hS
 ·rw[e1,e2]
  obtain⟨S,_,hS2⟩:=(zPK hok hy hmil).1 hf
  obtain⟨e3,_⟩:=zJC hS2
  have:f.1=S:=by rw[e3]
  rw[this,hS2,<- this]
def FitX(W:World)(B fb:Nat)(u v:Value)(p:List Int)(x:List Rt):Prop:=
 W.heap[fb]? =some (.cells #[u,v] 73 (0,0))∧W.ownsRow B 3 1 u p.length (p.map (Value.int .i64))∧W.ownsRow B 29 2 v x.length (zAM x)
theorem FitX.lt{W:World}{B fb:Nat}{u v:Value}{p:List Int}{x:List Rt}(h:FitX W B fb u v p x):fb<W.heap.size:=(Array.getElem?_eq_some_iff.1 h.1).1
theorem FitX.below{W W':World}{B fb:Nat}{u v:Value}{p:List Int}{x:List Rt}(h:FitX W B fb u v p x)(hb:Below W.heap.size W W'):FitX W' B fb u v p x:=
 ⟨(hb.block fb h.lt).trans h.1,zCV h.2.1 (fun k _ hk=>hb.block k hk),zCV h.2.2 (fun k _ hk=>hb.block k hk)⟩
theorem FitX.pix{W W':World}{B fb:Nat}{u v u':Value}{p p':List Int}{x:List Rt}(h:FitX W B fb u v p x)(g:W.grownBy W' u.ownBlock)(ho:W'.ownsRow B 3 1 u' p'.length (p'.map (Value.int .i64))):FitX (W'.setCell ⟨fb,0,none⟩ u') B fb u' v p' x:=by
 obtain⟨h1,h2,h3⟩:=h
 have hk:=Keep.grown g
 have hlt:=(Array.getElem?_eq_some_iff.1 h1).1
 have hne:some fb≠u.ownBlock:=fun e=>by
  obtain⟨_,c,hc⟩:=zBH h2 e.symm
  rw[h1]at hc;cases hc
 have q1:W'.heap[fb]? =some (.cells #[u,v] 73 (0,0)):=(hk.block fb hlt hne).trans h1
 refine⟨by rw[zAP q1 0 u'];rfl,zCV ho fun k e _=>Below.heap_setCell _ _ _ _ fun ek=>?_,zCV (zCV h3 fun k e hl=>hk.block k hl fun e2=>?_) fun k e _=>Below.heap_setCell _ _ _ _ fun ek=>?_⟩
 ·obtain⟨_,c,hc⟩:=zBH ho e
  have ek:k=fb:=ek
  rw[ek,q1]at hc;cases hc
 ·obtain⟨_,c,hc⟩:=zBH h3 e
  obtain⟨_,d,hd⟩:=zBH h2 e2.symm
  rw[hc]at hd;cases hd
 ·obtain⟨_,c,hc⟩:=zBH h3 e
  have ek:k=fb:=ek
  rw[ek,h1]at hc;cases hc
theorem FitX.val{W W':World}{B fb:Nat}{u v v':Value}{p:List Int}{x x':List Rt}(h:FitX W B fb u v p x)(g:W.grownBy W' v.ownBlock)(ho:W'.ownsRow B 29 2 v' x'.length (zAM x')):FitX (W'.setCell ⟨fb,1,none⟩ v') B fb u v' p x':=by
 obtain⟨h1,h2,h3⟩:=h
 have hk:=Keep.grown g
 have hlt:=(Array.getElem?_eq_some_iff.1 h1).1
 have hne:some fb≠v.ownBlock:=fun e=>by
  obtain⟨_,c,hc⟩:=zBH h3 e.symm
  rw[h1]at hc;cases hc
 have q1:W'.heap[fb]? =some (.cells #[u,v] 73 (0,0)):=(hk.block fb hlt hne).trans h1
 refine⟨by rw[zAP q1 1 v'];rfl,zCV (zCV h2 fun k e hl=>hk.block k hl fun e2=>?_) fun k e _=>Below.heap_setCell _ _ _ _ fun ek=>?_,zCV ho fun k e _=>Below.heap_setCell _ _ _ _ fun ek=>?_⟩
 ·obtain⟨_,c,hc⟩:=zBH h2 e
  obtain⟨_,d,hd⟩:=zBH h3 e2.symm
  rw[hc]at hd;cases hd
 ·obtain⟨_,c,hc⟩:=zBH h2 e
  have ek:k=fb:=ek
  rw[ek,h1]at hc;cases hc
 ·obtain⟨_,c,hc⟩:=zBH ho e
  have ek:k=fb:=ek
  rw[ek,q1]at hc;cases hc
theorem FitX.boxP{W W':World}{B fb:Nat}{u v:Value}{p:List Int}{x:List Rt}(h:FitX W B fb u v p x)(g:W.grownBy W' u.ownBlock):W'.heap[fb]? =some (.cells #[u,v] 73 (0,0)):=
 ((Keep.grown g).block fb h.lt (fun e=>by obtain⟨_,c,hc⟩:=zBH h.2.1 e.symm;rw[h.1]at hc;cases hc)).trans h.1
theorem FitX.boxV{W W':World}{B fb:Nat}{u v:Value}{p:List Int}{x:List Rt}(h:FitX W B fb u v p x)(g:W.grownBy W' v.ownBlock):W'.heap[fb]? =some (.cells #[u,v] 73 (0,0)):=
 ((Keep.grown g).block fb h.lt (fun e=>by obtain⟨_,c,hc⟩:=zBH h.2.2 e.symm;rw[h.1]at hc;cases hc)).trans h.1
theorem own_below_lt{W:World}{B n size k:Nat}{T:TypeId}{v:Value}{xs:List Value}(h:W.ownsRow B T size v n xs)(hk:v.ownBlock=some k):k<W.heap.size:=by
 obtain⟨_,c,hc⟩:=zBH h hk
 exact(Array.getElem?_eq_some_iff.1 hc).1
def zPJ(L:List (List Rt))(p:Nat)(e:Rt):Nat->Bool
 |0=>false
 |k+1=>zPJ L p e k||decide (zAB (L[k]?.getD []) p=e)
theorem met_at{L:List (List Rt)}{p:Nat}{e:Rt}:∀{k i:Nat},i<k->e=zAB (L[i]?.getD []) p->zPJ L p e k=true
 |k+1,i,hi,he=>by
  show(zPJ L p e k||decide (zAB (L[k]?.getD []) p=e))=true
  by_cases c:i=k
  ·subst c;rw[decide_eq_true he.symm,Bool.or_true]
  ·rw[met_at (show i<k by omega) he,Bool.true_or]
theorem span_law{L:List (List Rt)}{p:Nat}(hp:∀k:Nat,0<(zAB (L[k]?.getD []) p).2)(h0:0<L.length):
 (∀k,k<L.length->¬cmpF (zAB (L[k]?.getD []) p) (zDY L p).1<0∧¬0<cmpF (zAB (L[k]?.getD []) p) (zDY L p).2)∧zPJ L p (zDY L p).1 L.length=true∧zPJ L p (zDY L p).2 L.length=true:=by
 obtain⟨⟨i,hi,e1⟩,⟨j,hj,e2⟩,hb⟩:=zNT hp L.length h0
 refine⟨fun k hk=>?_,met_at hi e1,met_at hj e2⟩
 obtain⟨b1,b2⟩:=hb k hk
 have p1:0<(zDY L p).1.2:=by show 0<(zBD L p L.length).1.2;rw[e1];exact hp i
 have p2:0<(zDY L p).2.2:=by show 0<(zBD L p L.length).2.2;rw[e2];exact hp j
 have b1:(zDY L p).1.1*(zAB (L[k]?.getD []) p).2<=(zAB (L[k]?.getD []) p).1*(zDY L p).1.2:=b1
 have b2:(zAB (L[k]?.getD []) p).1*(zDY L p).2.2<=(zDY L p).2.1*(zAB (L[k]?.getD []) p).2:=b2
 refine⟨fun c=>?_,fun c=>?_⟩
 ·have:=(zLS (hp k) p1).1 c
  omega
 ·rw[zLR (hp k) p2]at c
  unfold cmpI at c
  split at c
  ·omega
  ·split at c<;>omega
end
section
open Go.RowKit
theorem two5_c(w:World):Calls Tryz.prog 72 #[] w fun e w'=>Below w.heap.size w w'∧∃a cap,e=.returned (.slice a 2 cap)∧zAN w' a twoM:=by
 go_enter Tryz.func72,Tryz.ntmps72
 go_wp2
 go_ret
 exact⟨(((Below.refl _ _).alloc (Nat.le_refl _) _).alloc (by simp) _).alloc (by simp;omega) _,_,_,rfl,two_rows w⟩
theorem zHC(w:World)(n:Int):Calls Tryz.prog 51 #[.int .i64 n] w fun e w'=>e=.returned (.agg #[.int .i64 n,.int .i64 1])∧Below w.heap.size w w':=by
 obtain⟨rb,hrb⟩:=exq (w.heap.size)
 obtain⟨wz,hwz⟩:=exq (w.alloc (.cells #[.int .i64 0,.int .i64 0] 29))
 have hbz:Below w.heap.size w wz:=by rw[hwz];exact(Below.refl _ _).alloc (Nat.le_refl _) _
 have hrz:RatI wz rb (0,0):=by rw[hwz,hrb];exact RatI.made w (0,0)
 obtain⟨r0,r1,r2,r3,r4⟩:=hrz.cells
 have X1:=hid (RatI.set (p:=(n,1)) hrz)
 have X2:=hid ((zBJ wz rb (.int .i64 n) (.int .i64 1)).below hbz hbz.size (fun k hk=>by show k≠rb;omega))
 have HWZ:=hid hwz
 clear hwz hrz hbz
 go_enter Tryz.func51,Tryz.ntmps51
 go_upto_region 1 with fail
 rw[<- hrb,<- HWZ.out]
 clear hrb
 go_wp2
 clear r0 r1 r2 r3 r4
 generalize (wz.setCell ⟨rb,0,none⟩ (.int .i64 n)).setCell ⟨rb,1,none⟩ (.int .i64 1)=WF at X1 X2⊢
 obtain⟨t0,t1,t2,t3,t4⟩:=X1.out.cells
 refine bodyPost_ret (v:=.agg #[.int .i64 n,.int .i64 1]) ?_ rfl ⟨rfl,X2.out⟩
 simp[results,Tryz.results51,go_sem,t0,t1,t2,t3,t4]
theorem aw5_val:valE twoM [1,-1]=((2,1),0):=by decide+kernel
theorem aw5_prov:zDS twoM [1,1] [(0,1),(1,1),(0,1)] [(1,1),(0,1)]=true:=by decide+kernel
theorem ints2(w:World)(x y:Int)(T:TypeId):zAI (w.alloc (.cells #[.int .i64 x,.int .i64 y] T)) (some ⟨w.heap.size,0,none⟩) [x,y]:=fun j hj=>⟨w.heap.size,0,rfl,by simp,by
 rw[World.cell?_alloc_at _ _ _ _ rfl]
 match j,hj with
 |0,_=>rfl
 |1,_=>rfl⟩
theorem rats3(w:World)(a b c d e f:Int)(T:TypeId):zBE (w.alloc (.cells #[.int .i64 a,.int .i64 b,.int .i64 c,.int .i64 d,.int .i64 e,.int .i64 f] T)) (some ⟨w.heap.size,0,none⟩) [(a,b),(c,d),(e,f)]:=fun j hj=>⟨w.heap.size,0,rfl,by simp,by
 rw[World.cell?_alloc_at _ _ _ _ rfl]
 match j,hj with
 |0,_=>rfl
 |1,_=>rfl
 |2,_=>rfl,by
 rw[World.cell?_alloc_at _ _ _ _ rfl]
 match j,hj with
 |0,_=>rfl
 |1,_=>rfl
 |2,_=>rfl⟩
theorem rats2(w:World)(a b c d:Int)(T:TypeId):zBE (w.alloc (.cells #[.int .i64 a,.int .i64 b,.int .i64 c,.int .i64 d] T)) (some ⟨w.heap.size,0,none⟩) [(a,b),(c,d)]:=fun j hj=>⟨w.heap.size,0,rfl,by simp,by
 rw[World.cell?_alloc_at _ _ _ _ rfl]
 match j,hj with
 |0,_=>rfl
 |1,_=>rfl,by
 rw[World.cell?_alloc_at _ _ _ _ rfl]
 match j,hj with
 |0,_=>rfl
 |1,_=>rfl⟩
theorem awake5_c(w:World):Calls Tryz.prog 18 #[] w fun e w'=>e=.returned (.bool true)∧Below w.heap.size w w':=by
 go_enter Tryz.func18,Tryz.ntmps18
 go_upto_region 2 with (go_at_call 72;refine(two5_c _).mono ?_;rintro e w1 ⟨hb1,a,cap,rfl,hR⟩;refine Stop.of ?_)
 refine Stop.go ?_
 have hbA:Below w1.heap.size w1 (w1.alloc (.cells #[.int .i64 1,.int .i64 (-1)] 3)):=(Below.refl _ _).alloc (Nat.le_refl _) _
 have HV:=hid (dvalue_c (w1.alloc (.cells #[.int .i64 1,.int .i64 (-1)] 3)) a (some ⟨w1.heap.size,0,none⟩) 2 cap 2 2 twoM [1,-1] rfl rfl (by decide) (by decide) (hR.below hbA) (ints2 w1 1 (-1) _))
 rw[aw5_val]at HV
 have HB1:=hid (zAA hb1 hbA)
 clear hb1 hbA hR
 go_upto_region 2 with (go_at_call 19;refine HV.out.mono ?_;rintro e w2 ⟨rfl,hb2⟩;refine Stop.of ?_)
 refine Stop.go ?_
 have HB2:=hid (zAA HB1.out hb2)
 clear hb2 HB1 HV
 have hr:ratV (2,1)=.agg #[.int .i64 2,.int .i64 1]:=rfl
 rw[hr]
 clear hr
 go_upto_region 2 with fail
 go_upto_region 3 with (go_at_call 51;refine(zHC _ _).mono ?_;rintro e w3 ⟨rfl,hb3⟩;have HB3:=hid hb3;clear hb3;refine Stop.of ?_)
 refine Stop.go ?_
 go_upto_region 3 with (go_at_call 51;refine(zHC _ _).mono ?_;rintro e w4 ⟨rfl,hb4⟩;have HB4:=hid hb4;clear hb4;refine Stop.of ?_)
 refine Stop.go ?_
 go_upto_region 3 with (go_at_call 51;refine(zHC _ _).mono ?_;rintro e w5 ⟨rfl,hb5⟩;have HB5:=hid hb5;clear hb5;refine Stop.of ?_)
 refine Stop.go ?_
 go_upto_region 3 with (go_at_call 51;refine(zHC _ _).mono ?_;rintro e w6 ⟨rfl,hb6⟩;have HB6:=hid hb6;clear hb6;refine Stop.of ?_)
 refine Stop.go ?_
 go_upto_region 3 with (go_at_call 51;refine(zHC _ _).mono ?_;rintro e w7 ⟨rfl,hb7⟩;have HB7:=hid hb7;clear hb7;refine Stop.of ?_)
 refine Stop.go ?_
 go_upto_region 3 with fail
 have B25:Below (w2.alloc (.cells #[.int .i64 2,.int .i64 1] 29)).heap.size (w2.alloc (.cells #[.int .i64 2,.int .i64 1] 29)) w5:=zAA HB3.out (zAA HB4.out HB5.out)
 have B57:Below (w5.alloc (.cells #[.int .i64 0,.int .i64 1,.int .i64 1,.int .i64 1,.int .i64 0,.int .i64 1] 29)).heap.size (w5.alloc (.cells #[.int .i64 0,.int .i64 1,.int .i64 1,.int .i64 1,.int .i64 0,.int .i64 1] 29)) w7:=zAA HB6.out HB7.out
 have R2:=RatI.made w2 (2,1)
 have R5:RatI w5 w2.heap.size (2,1):=R2.keep (B25.block _ R2.lt)
 have bC:Below w5.heap.size w5 (w5.alloc (.cells #[.int .i64 0,.int .i64 1,.int .i64 1,.int .i64 1,.int .i64 0,.int .i64 1] 29)):=(Below.refl _ _).alloc (Nat.le_refl _) _
 have b57:Below w5.heap.size w5 w7:=zAA bC B57
 have R7:RatI w7 w2.heap.size (2,1):=R5.keep (b57.block _ R5.lt)
 have X7:zBE w7 (some ⟨w5.heap.size,0,none⟩) [(0,1),(1,1),(0,1)]:=(rats3 w5 0 1 1 1 0 1 29).below B57
 have bA:Below w2.heap.size w2 (w2.alloc (.cells #[.int .i64 2,.int .i64 1] 29)):=(Below.refl _ _).alloc (Nat.le_refl _) _
 have bw7:Below w.heap.size w w7:=zAA HB2.out (zAA bA (zAA B25 b57))
 obtain⟨b1,hb1⟩:=exq (w2.heap.size)
 obtain⟨ap,hap⟩:=exq (w5.heap.size)
 obtain⟨ax,hax⟩:=exq (w7.heap.size)
 obtain⟨b3,hb3⟩:=exq (w7.heap.size+1)
 obtain⟨wB,hwB⟩:=exq ((w7.alloc (.cells #[.int .i64 1,.int .i64 1,.int .i64 0,.int .i64 1] 29)).alloc (.cells #[.slice (some ⟨w5.heap.size,0,none⟩) 3 3,.slice (some ⟨w7.heap.size,0,none⟩) 2 2] 78))
 have bD:Below w7.heap.size w7 (w7.alloc (.cells #[.int .i64 1,.int .i64 1,.int .i64 0,.int .i64 1] 29)):=(Below.refl _ _).alloc (Nat.le_refl _) _
 have bB:Below w7.heap.size w7 wB:=by rw[hwB];exact bD.alloc bD.size _
 have bDB:Below (w7.alloc (.cells #[.int .i64 1,.int .i64 1,.int .i64 0,.int .i64 1] 29)).heap.size (w7.alloc (.cells #[.int .i64 1,.int .i64 1,.int .i64 0,.int .i64 1] 29)) wB:=by rw[hwB];exact(Below.refl _ _).alloc (Nat.le_refl _) _
 have HRB:=hid (R7.keep (bB.block _ R7.lt))
 have HPB:=hid (X7.below bB)
 have HXB:=hid ((rats2 w7 1 1 0 1 29).below bDB)
 have HLB:=hid (show wB.heap[w7.heap.size+1]? =some (.cells #[.slice (some ⟨w5.heap.size,0,none⟩) 3 3,.slice (some ⟨w7.heap.size,0,none⟩) 2 2] 78 (0,0))by
  have h:=World.alloc_heap_new (w7.alloc (.cells #[.int .i64 1,.int .i64 1,.int .i64 0,.int .i64 1] 29)) (.cells #[.slice (some ⟨w5.heap.size,0,none⟩) 3 3,.slice (some ⟨w7.heap.size,0,none⟩) 2 2] 78)
  rw[World.size_alloc]at h
  rw[hwB];exact h)
 have HBW:=hid (zAA bw7 bB)
 rw[<- hwB]
 rw[<- hb1]at HRB⊢
 rw[<- hb3]at HLB⊢
 rw[<- hap]at HPB HLB⊢
 rw[<- hax]at HXB HLB⊢
 clear B25 B57 R2 R5 bC b57 R7 X7 bA bw7 hb1 hap hax hb3 hwB bD bB bDB HB2 HB3 HB4 HB5 HB6 HB7
 have HS:=hid (fun(X:World) (hX:Below wB.heap.size wB X)=>show X.cell? ⟨b1,0,none⟩=some (.int .i64 2)∧X.cell? ⟨b1,1,none⟩=some (.int .i64 1)∧X.cell? ⟨b3,0,none⟩=some (.slice (some ⟨ap,0,none⟩) 3 3)∧X.cell? ⟨b3,1,none⟩=some (.slice (some ⟨ax,0,none⟩) 2 2)from by
  obtain⟨c0,c1,_⟩:=(HRB.out.keep (hX.block _ HRB.out.lt)).cells
  have h:=(hX.block _ (Array.getElem?_eq_some_iff.1 HLB.out).1).trans HLB.out
  exact⟨c0,c1,by simp[World.cell?,h],by simp[World.cell?,h]⟩)
 have HPV:=hid (fun(X:World) (a a3:Option Addr) (cap cap3:Nat) (hX:Below wB.heap.size wB X) (hR:zAN X a twoM) (hY:zAI X a3 [1,1])=>dproves_c X a a3 (some ⟨ap,0,none⟩) (some ⟨ax,0,none⟩) 2 cap 2 cap3 3 3 2 2 twoM [1,1] [(0,1),(1,1),(0,1)] [(1,1),(0,1)] rfl rfl rfl rfl (by decide) (by decide) (by decide) (by decide) hR hY (HPB.out.below hX) (HXB.out.below hX))
 rw[aw5_prov]at HPV
 refine zAF (fun j X=>wAll j=true->X.cell? ⟨b1,0,none⟩=some (.int .i64 2)∧X.cell? ⟨b1,1,none⟩=some (.int .i64 1)∧X.cell? ⟨b3,0,none⟩=some (.slice (some ⟨ap,0,none⟩) 3 3)∧X.cell? ⟨b3,1,none⟩=some (.slice (some ⟨ax,0,none⟩) 2 2)) (by kernel_rfl) ?_
 have hbd:Below wB.heap.size wB wB.drew:=(Below.refl _ _).drew
 generalize wB.drew=wd at hbd⊢
 have HBD:=hid hbd
 clear hbd
 refine AnyT.nx (i:=0) rfl ?_
 go_wp2
 refine⟨fun _=>HS.out _ HBD.out,?_⟩
 refine AnyT.nx (i:=1) rfl ?_
 go_wp2
 refine⟨fun _=>HS.out _ HBD.out,?_⟩
 refine AnyT.nx (i:=2) rfl ?_
 go_wp2
 refine⟨fun _=>HS.out _ HBD.out,?_⟩
 refine AnyT.tD (i:=3) (v:=.agg #[.int .i64 2,.int .i64 1]) rfl rfl (by rintro w' ⟨q0,q1,q2,q3⟩;go_simp) (HS.out _ HBD.out) ?_;go_frame
 refine AnyT.nx (i:=4) rfl ?_
 go_wp2_with (go_at_call 51;refine(zHC _ _).mono ?_;rintro e w3 ⟨rfl,hb3⟩;have HB3:=hid (zAA HBD.out hb3);clear hb3;refine Stop.of ?_)
 refine Stop.go ?_
 go_wp2
 refine⟨fun _=>HS.out _ HB3.out,?_⟩
 refine AnyT.nx (i:=5) rfl ?_
 go_wp2
 refine⟨fun _=>HS.out _ HB3.out,?_⟩
 refine AnyT.nx (i:=6) rfl ?_
 go_wp2
 refine⟨fun _=>HS.out _ HB3.out,?_⟩
 refine AnyT.nx (i:=7) rfl ?_
 go_wp2
 refine⟨fun _=>HS.out _ HB3.out,?_⟩
 refine AnyT.tD (i:=10) (v:=.agg #[.slice (some ⟨ap,0,none⟩) 3 3,.slice (some ⟨ax,0,none⟩) 2 2]) rfl rfl (by rintro w' ⟨q0,q1,q2,q3⟩;go_simp) (HS.out _ HB3.out) ?_;go_frame
 refine AnyT.next2 (i:=8) (j:=9) (by kernel_rfl) (wpOp_of_list rfl ?_) (wpOp_of_list rfl ?_)
 ·go_wp2_with (go_at_call 72;refine(two5_c _).mono ?_;rintro e w4 ⟨hb4,a4,cap4,rfl,hR4⟩;have HB4:=hid (zAA HB3.out hb4);have HR4:=hid hR4;clear hb4 hR4;refine Stop.of ?_)
  refine Stop.go ?_
  go_wp2
  refine⟨fun _=>HS.out _ HB4.out,?_⟩
  refine AnyT.nx (i:=9) rfl ?_
  go_wp2
  have hb5:Below w4.heap.size w4 (w4.alloc (.cells #[.int .i64 1,.int .i64 1] 3)):=(Below.refl _ _).alloc (Nat.le_refl _) _
  have HB5:=hid (zAA HB4.out hb5)
  have HPV2:=hid (HPV.out _ a4 (some ⟨w4.heap.size,0,none⟩) cap4 2 HB5.out (HR4.out.below hb5) (ints2 w4 1 1 3))
  clear hb5
  refine⟨fun _=>HS.out _ HB5.out,?_⟩
  refine AnyT.nx (i:=11) rfl ?_
  go_wp2_with (go_at_call 61;refine HPV2.out.mono ?_;rintro e w8 ⟨rfl,hb8⟩;have HB8:=hid (zAA HB5.out hb8);clear hb8;refine Stop.of ?_)
  refine Stop.go ?_
  go_wp2
  refine⟨fun _=>HS.out _ HB8.out,?_⟩
  refine AnyT.nx (i:=12) rfl ?_
  go_wp2
  refine⟨fun _=>HS.out _ HB8.out,?_⟩
  refine AnyT.nx (i:=13) rfl ?_
  go_wp2
  refine⟨fun _=>HS.out _ HB8.out,?_⟩
  refine AnyT.done (by kernel_rfl) ?_ _
  go_wp2
  go_ret
  exact⟨rfl,zAA HBW.out HB8.out⟩
 ·go_wp2
  obtain⟨w4,hw4⟩:=exq (w3.alloc (.cells #[.int .i64 1,.int .i64 1] 3))
  have hb4:Below w3.heap.size w3 w4:=by rw[hw4];exact(Below.refl _ _).alloc (Nat.le_refl _) _
  have HY4:=hid (show zAI w4 (some ⟨w3.heap.size,0,none⟩) [1,1]by rw[hw4];exact ints2 w3 1 1 3)
  have HB4:=hid (zAA HB3.out hb4)
  rw[<- hw4]
  clear hb4 hw4
  refine⟨fun _=>HS.out _ HB4.out,?_⟩
  refine AnyT.nx (i:=8) rfl ?_
  go_wp2_with (go_at_call 72;refine(two5_c _).mono ?_;rintro e w5 ⟨hb5,a4,cap4,rfl,hR4⟩;have HB5:=hid (zAA HB4.out hb5);have HPV2:=hid (HPV.out _ a4 (some ⟨w3.heap.size,0,none⟩) cap4 2 HB5.out hR4 (HY4.out.below hb5));clear hb5 hR4;refine Stop.of ?_)
  refine Stop.go ?_
  go_wp2
  refine⟨fun _=>HS.out _ HB5.out,?_⟩
  refine AnyT.nx (i:=11) rfl ?_
  go_wp2_with (go_at_call 61;refine HPV2.out.mono ?_;rintro e w8 ⟨rfl,hb8⟩;have HB8:=hid (zAA HB5.out hb8);clear hb8;refine Stop.of ?_)
  refine Stop.go ?_
  go_wp2
  refine⟨fun _=>HS.out _ HB8.out,?_⟩
  refine AnyT.nx (i:=12) rfl ?_
  go_wp2
  refine⟨fun _=>HS.out _ HB8.out,?_⟩
  refine AnyT.nx (i:=13) rfl ?_
  go_wp2
  refine⟨fun _=>HS.out _ HB8.out,?_⟩
  refine AnyT.done (by kernel_rfl) ?_ _
  go_wp2
  go_ret
  exact⟨rfl,zAA HBW.out HB8.out⟩
end
end Go.Proofs.YtlffndehhhpgjaaGreat
