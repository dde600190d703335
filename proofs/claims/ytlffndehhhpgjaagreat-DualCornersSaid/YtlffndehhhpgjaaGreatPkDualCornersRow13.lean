/- Walks and plain laws for DualCornersRow, part 13. -/
import Derived.Laws.CopyOwn
import Derived.Test.YtlffndehhhpgjaaGreatPkDualCornersRow12
namespace Go.Proofs.YtlffndehhhpgjaaGreat
set_option linter.unusedVariables false
set_option linter.unusedSimpArgs false
set_option maxRecDepth 100000
set_option maxHeartbeats 4000000
section
open Go.RowKit
theorem copy_rowN{P:Program}(w:World)(dT sT ty:TypeId)(g o dLen dCap:Nat)(a:Addr)(sLen sCap sz:Nat)(cur:Array Value)(t:TypeId)(cs:List Value)(elem:TypeId)
 (hu:P.underlying dT=some (.slice elem))(hs:(P.info? elem).map (·.size)=some sz)(hg:w.heap[g]? =some (.cells cur t (0,0)))(hn:cs.length=Nat.min sLen dLen*sz)
 (hsrc:∀j v,cs[j]? =some v->w.cell? (a.add j)=some v)(hfit:o+cs.length<=cur.size)(h1:∀v∈cs,v.oneCell'=true):
 (Builtin.copy_ #[dT,sT] ty #[.slice (some ⟨g,o,none⟩) dLen dCap,.slice (some a) sLen sCap]).run P w=.ok (goInt (Nat.min sLen dLen)) (w.setRow g (cur.toList.take o++cs++cur.toList.drop (o+cs.length)).toArray):=by
 have hl:=run_loadCells_list (P:=P) w a cs hsrc
 have hst:=run_storeCells_at P g o t cs 0 cur w hg (by simpa using hfit) h1
 cases hq:P.info? elem with
 |none=>simp[hq]at hs
 |some i=>
  have hi:i.size=sz:=by simpa[hq]using hs
  simp[Builtin.copy_,run_underlying hu,Builtin.lenOf,Builtin.firstCells,sizeOf,typeInfo,hq,hi,<- hn,hl,hst]
theorem wpList_copyN{P:Program}{w:World}{ops:Array Oper}{rest:List Oper}{o:Oper}{a:Act}{Q:Exit->Act->World->Prop}(hgd:o.guard=none)(d s:Operand)(dT sT:TypeId)
 (ho:o.op=.call {callee:=.builtin .copy,args:=#[d,s],argTypes:=#[dT,sT]})(elem:TypeId)(sz:Nat)(hu:P.underlying dT=some (.slice elem))(hsz:(P.info? elem).map (·.size)=some sz)
 (g off dLen dCap:Nat)(ad:Addr)(sLen sCap:Nat)(hd:a.eval d=.slice (some ⟨g,off,none⟩) dLen dCap)(hs:a.eval s=.slice (some ad) sLen sCap)
 (cur:List Value)(t:TypeId)(hg:w.heap[g]? =some (.cells cur.toArray t (0,0)))(cs:List Value)(m:Nat)(hm:m=Nat.min sLen dLen)(hn:cs.length=m*sz)
 (hsrc:∀j v,cs[j]? =some v->w.cell? (ad.add j)=some v)(hfit:off+cs.length<=cur.length)(h1:∀v∈cs,v.oneCell'=true)(B:Nat)(w0:World)(hb:Below B w0 w)(hBg:B<=g)
 (h:∀w',Hid (w'.heap[g]? =some (.cells (splice cur off cs).toArray t (0,0)))->Below B w0 w'->wpList P ops Q rest (a.put o.dst (goInt m)) w'):wpList P ops Q (o::rest) a w:=by
 refine wpList_plain hgd fun K hK=>?_
 have hrun:=copy_rowN (P:=P) w dT sT o.type g off dLen dCap ad sLen sCap sz cur.toArray t cs elem hu hsz hg (by rw[hn,hm]) hsrc (by simpa using hfit) h1
 unfold Oper.wp
 rw[<- hm]at hrun
 simp[execOp,ho,resolve,invoke,builtin,hd,hs,hrun,Result.andThen]
 refine hK _ _ (h _ ?_ (below_setRow hb hBg _))
 show _=_
 simpa[splice]using setRow_heap w g _ _ t _ hg
theorem zET(l m:List Rt):zAM (l++m)=zAM l++zAM m:=by simp[zAM]
theorem zNS(L M:List Rt)(k:Nat)(c:List Rt)(hk:k+c.length<=L.length):splice (zAM L) (k*2) (zAM c)=zAM (L.take k++(c++L.drop (k+c.length))):=by
 unfold splice
 have h1:(zAM L).take (k*2)=zAM (L.take k):=by
  have:=zET (L.take k) (L.drop k)
  rw[List.take_append_drop]at this
  rw[this,List.take_append_of_le_length (by rw[zBR,List.length_take];omega),List.take_of_length_le (by rw[zBR,List.length_take];omega)]
 have h2:(zAM L).drop (k*2+(zAM c).length)=zAM (L.drop (k+c.length)):=by
  have:=zET (L.take (k+c.length)) (L.drop (k+c.length))
  rw[List.take_append_drop]at this
  have e:k*2+(zAM c).length=(zAM (L.take (k+c.length))).length:=by rw[zBR,zBR,List.length_take];omega
  rw[this,e,List.drop_left]
 rw[h1,h2,zET,zET]
theorem bmul_c(x y:Nat)(hx:x<18446744073709551616)(hy:y<18446744073709551616)(h:x*y<18446744073709551616)(w:World):
 Calls Tryz.prog 227 #[.int .u64 x,.int .u64 y] w fun e w'=>e=.returned (.tuple #[.int .u64 0,.int .u64 ((x*y:Nat):Int)])∧w=w':=by
 have HM:=hid (mul64_c x y hx hy w)
 rw[Nat.div_eq_of_lt h,Nat.mod_eq_of_lt h]at HM
 obtain⟨z,hz⟩:=exq (x*y)
 rw[<- hz]at HM⊢
 clear hz h hx hy
 go_enter Tryz.func227,Tryz.ntmps227
 go_wp2_with (go_at_call 209;refine HM.out.mono ?_;rintro e w1 ⟨rfl,rfl⟩)
 go_ret2
 exact⟨rfl,rfl⟩
theorem zMZ:(Tryz.prog.info? 29).map (·.size)=some 2:=by kernel_rfl
theorem repeat_c(w:World)(a:Option Addr)(cap:Nat)(r:Rt)(H:zBE w a [r])(N:Nat)(hN1:1<=N)(hN:N<=1000):
 Calls Tryz.prog 186 #[.slice a 1 cap,.int .i64 N] w fun e w'=>∃g,e=.returned (.slice (some ⟨g,0,none⟩) N N)∧w.heap.size<=g∧zCG w' g (List.replicate N r)∧Below w.heap.size w w':=by
 obtain⟨b,off,rfl,hb,h0,h1⟩:=H 0 (by simp)
 simp only[Nat.zero_mul,Nat.add_zero,List.getElem_cons_zero]at h0 h1
 have HMU:=hid (bmul_c 1 N (by decide) (by omega) (by omega) w)
 rw[Nat.one_mul]at HMU
 have w1:IntKind.u64.wrap (1:Int)=1:=by decide
 have w2:IntKind.u64.wrap (N:Int)=N:=by rw[IntKind.wrap_u64];omega
 have w3:IntKind.i64.wrap (N:Int)=N:=IntWalk.i64_in _ (by omega)
 have hmk:=zKY N (by omega)
 obtain⟨wa,hwa⟩:=exq (w.alloc (.cells (madeCells #[.int .i64 0,.int .i64 0] (N*2)) 29))
 obtain⟨g,hg⟩:=exq (w.heap.size)
 have hba:Below w.heap.size w wa:=by rw[hwa];exact(Below.refl _ _).alloc (Nat.le_refl _) _
 have hrb0:zCG wa g (List.replicate N (0,0)):=by rw[hwa,hg];exact made_rat w N
 have hgb:g≠b:=by omega
 have hsrc:∀(X:World),X.heap[b]? =w.heap[b]? ->∀(j:Nat) (v:Value),(zBC r)[j]? =some v->X.cell? ((⟨b,off,none⟩:Addr).add j)=some v:=by
  intro X hX j v hv
  have e:∀o,X.cell? ⟨b,o,none⟩=w.cell? ⟨b,o,none⟩:=fun o=>World.cell?_of_block hX
  match j,hv with
  |0,hv=>cases hv;exact(e _).trans h0
  |1,hv=>cases hv;exact(e _).trans h1
  |j+2,hv=>simp[zBC]at hv
 have hcp:=copy_rowN (P:=Tryz.prog) wa 42 42 3 g 0 N N ⟨b,off,none⟩ 1 cap 2 (zAM (List.replicate N (0,0))).toArray 29 (zBC r) 29 (by kernel_rfl) zMZ hrb0 (by rw[show Nat.min 1 N=1 from Nat.min_eq_left hN1];rfl) (hsrc wa (hba.block b hb)) (by simp[zBC,zBR];omega) (zMF r)
 rw[show Nat.min 1 N=1 from Nat.min_eq_left hN1]at hcp
 obtain⟨w5,hw5⟩:=exq (wa.setRow g ((zAM (List.replicate N (0,0))).toArray.toList.take 0++zBC r++(zAM (List.replicate N (0,0))).toArray.toList.drop (0+(zBC r).length)).toArray)
 rw[<- hw5]at hcp
 have hrb1:zCG w5 g (List.replicate 1 r++List.replicate (N-1) (0,0)):=by
  rw[hw5]
  have:=setRow_heap wa g _ ((zAM (List.replicate N (0,0))).toArray.toList.take 0++zBC r++(zAM (List.replicate N (0,0))).toArray.toList.drop (0+(zBC r).length)).toArray _ _ hrb0
  unfold zCG
  rw[this]
  have e:=zNS (List.replicate N (0,0)) [] 0 [r] (by simp;omega)
  unfold splice at e
  have e2:zAM [r]=zBC r:=by simp[zAM]
  rw[e2]at e
  have e3:(List.replicate N ((0:Int),(0:Int))).take 0++([r]++(List.replicate N (0,0)).drop (0+[r].length))=List.replicate 1 r++List.replicate (N-1) (0,0):=by simp
  rw[e3]at e
  simp only[List.append_assoc,Nat.zero_mul]at e⊢
  rw[e]
 have hb5:Below w.heap.size w w5:=by rw[hw5];exact below_setRow hba (by omega) _
 have HRB1:=hid hrb1
 have HB5:=hid hb5
 have HG:=hid hg
 clear hba hrb0 hgb hsrc hrb1 hb5 hw5 h0 h1 H
 go_enter Tryz.func186,Tryz.ntmps186
 go_wp2_with (go_at_call 227;refine HMU.out.mono ?_;rintro e w4 ⟨rfl,rfl⟩;refine Stop.of ?_)
 refine Stop.go ?_
 clear HMU
 rw[hg,hwa]at hcp
 clear hg hwa
 go_wp2_with fail
 clear hcp hmk
 rw[<- HG.out]
 go_loopw [8] (fun i wr=>∃k:Nat,1<=k∧k<=N∧i=.int .i64 k∧zCG wr g (List.replicate k r++List.replicate (N-k) (0,0))∧Below w.heap.size w wr) (fun i _=>N-(intOf i).toNat)
 case atStart=>exact⟨1,by omega,hN1,rfl,HRB1.out,HB5.out⟩
 case round=>
  obtain⟨k,hk1,hk,rfl,hrk,hbk⟩:=hrel
  by_cases hlt:k<N
  ·have i1:(k:Int)<(N:Int):=by omega
   have i2:(0:Int)<=(k:Int):=by omega
   have i3:(k:Int)<=(N:Int):=by omega
   have i4:¬N=k:=by omega
   have HRK:=hid hrk
   have HBK:=hid hbk
   clear hrk hbk
   go_wp2
   refine zAF (fun j' X=>wAll j'=true->True) (by kernel_rfl) ?_
   have hbd:Below w.heap.size w wr.drew:=HBK.out.drew
   have hrd:zCG wr.drew g (List.replicate k r++List.replicate (N-k) (0,0)):=HRK.out.keep rfl
   generalize wr.drew=wd at hbd hrd⊢
   have HRD:=hid hrd
   have HBD:=hid hbd
   clear hrd hbd
   refine AnyT.tD (i:=0) (v:=.int .i64 k) rfl rfl (by rintro w' y1;go_simp) trivial ?_;go_frame
   refine AnyT.tD (i:=1) (v:=.slice (some ⟨g,0,none⟩) N N) rfl rfl (by rintro w' y1;go_simp) trivial ?_;go_frame
   refine AnyT.tD (i:=2) (v:=.int .i64 k) rfl rfl (by rintro w' y1;go_simp) trivial ?_;go_frame
   refine AnyT.tD (i:=3) (v:=.slice (some ⟨g,k*2,none⟩) (N-k) (N-k)) rfl rfl (by rintro w' y1;go_simp) trivial ?_;go_frame
   refine AnyT.tD (i:=4) (v:=.slice (some ⟨g,0,none⟩) N N) rfl rfl (by rintro w' y1;go_simp) trivial ?_;go_frame
   refine AnyT.tD (i:=5) (v:=.int .i64 k) rfl rfl (by rintro w' y1;go_simp) trivial ?_;go_frame
   refine AnyT.tD (i:=6) (v:=.slice (some ⟨g,0,none⟩) k N) rfl rfl (by rintro w' y1;go_simp) trivial ?_;go_frame
   refine AnyT.nx (i:=7) rfl ?_
   obtain⟨m,hm⟩:=exq (Nat.min k (N-k))
   have hm1:1<=m∧k+m<=N:=by rw[hm];show 1<=min k (N-k)∧k+min k (N-k)<=N;omega
   have hcl:(zAM (List.replicate m r)).length=m*2:=by rw[zBR,List.length_replicate]
   refine wpList_copyN rfl (.tmp 41) (.tmp 44) 42 42 rfl 29 2 (by kernel_rfl) zMZ g (k*2) (N-k) (N-k) ⟨g,0,none⟩ k N rfl rfl (zAM (List.replicate k r++List.replicate (N-k) (0,0))) 29 HRD.out (zAM (List.replicate m r)) m hm hcl ?_ ?_ ?_ w.heap.size w HBD.out (by rw[HG.out];exact Nat.le_refl _) ?_
   ·intro j v hv
    have hj:j<m*2:=by rw[<- hcl];exact(List.getElem?_eq_some_iff.1 hv).1
    have e1:((⟨g,0,none⟩:Addr).add j)=⟨g,j,none⟩:=by unfold Addr.add;split<;>simp_all
    have hb0:=HRD.out
    unfold zCG at hb0
    rw[e1]
    have hsame:(zAM (List.replicate k r++List.replicate (N-k) (0,0)))[j]? =(zAM (List.replicate m r))[j]? :=by
     have e2:List.replicate k r++List.replicate (N-k) ((0:Int),(0:Int))=List.replicate m r++(List.replicate (k-m) r++List.replicate (N-k) (0,0)):=by
      have:m<=k:=by rw[hm];exact Nat.min_le_left _ _
      rw[<- List.append_assoc,List.replicate_append_replicate,show m+(k-m)=k by omega]
     rw[e2,zET,List.getElem?_append_left (by omega)]
    simp[World.cell?,hb0,hsame,hv]
   ·rw[hcl,zBR,List.length_append,List.length_replicate,List.length_replicate];omega
   ·intro u hu
    obtain⟨x,_,hx⟩:=List.mem_flatMap.1 hu
    exact zMF x u hx
   ·intro w6 h6 hb6
    have HR6:=hid (show zCG w6 g (List.replicate (k+m) r++List.replicate (N-(k+m)) (0,0))from by
     unfold zCG
     rw[h6.out]
     have e:=zNS (List.replicate k r++List.replicate (N-k) ((0:Int),(0:Int))) [] k (List.replicate m r) (by simp;omega)
     rw[e]
     congr 3
     rw[List.take_append_of_le_length (by simp),List.take_of_length_le (by simp),List.length_replicate,List.drop_append,List.drop_of_length_le (by simp),List.nil_append,List.drop_replicate,List.length_replicate,<- List.append_assoc,List.replicate_append_replicate]
     rw[show N-k-(k+m-k)=N-(k+m)by omega])
    have HB6:=hid hb6
    have i5:(k:Int)+(m:Int)<=N:=by omega
    clear h6 hb6 hm hcl
    go_wp2
    refine⟨fun _=>trivial,?_⟩
    refine AnyT.nx (i:=8) rfl ?_
    go_wp2
    refine⟨fun _=>trivial,?_⟩
    refine AnyT.nx (i:=9) rfl ?_
    go_wp2
    refine⟨fun _=>trivial,?_⟩
    refine AnyT.done (by kernel_rfl) ?_ _
    go_wp2
    refine⟨⟨k+m,by omega,by omega,by go_num,HR6.out,HB6.out⟩,by simp[intOf];omega⟩
  ·obtain rfl:k=N:=by omega
   have hni:¬(k:Int)<(k:Int):=by omega
   rw[Nat.sub_self]at hrk
   simp only[List.replicate_zero,List.append_nil]at hrk
   go_wp2
   go_ret
   exact⟨g,rfl,by rw[HG.out];exact Nat.le_refl _,hrk,hbk⟩
end
section
def zOV(n:Nat)(J:List Int)(v:List Rt):List Rt:=(List.range J.length).foldl (fun out i=>out.set (J[i]?.getD 0).toNat (v[i]?.getD (0,0))) (List.replicate n (0,1))
def zDL(n:Nat)(J:List Int)(v:List Rt)(k:Nat):List Rt:=(List.range k).foldl (fun out i=>out.set (J[i]?.getD 0).toNat (v[i]?.getD (0,0))) (List.replicate n (0,1))
theorem zID(n:Nat)(J:List Int)(v:List Rt)(k:Nat):zDL n J v (k+1)=(zDL n J v k).set (J[k]?.getD 0).toNat (v[k]?.getD (0,0)):=by
 unfold zDL;rw[List.range_succ,List.foldl_append];rfl
theorem spreadTo_len(n:Nat)(J:List Int)(v:List Rt)(k:Nat):(zDL n J v k).length=n:=by
 unfold zDL;rw[zEJ (fun i=>v[i]?.getD (0,0)) (fun i=>(J[i]?.getD 0).toNat)];simp
end
section
open Go.RowKit
theorem spread_c(w:World)(W:Nat)(hW1:1<=W)(hW:W<=1000)(a a2:Option Addr)(k cap k2 cap2:Nat)(l:List Int)(v:List Rt)(hk:l.length=k)(hk2:v.length=k2)(hle:k<=k2)(hm:k<=1000)(H:zAI w a l)(H2:zBE w a2 v)
 (hb:∀i,i<k->0<=l[i]?.getD 0∧l[i]?.getD 0<(W:Int)):
 Calls Tryz.prog 162 #[.int .i64 W,.slice a k cap,.slice a2 k2 cap2] w fun e w'=>∃g,e=.returned (.slice (some ⟨g,0,none⟩) W W)∧w.heap.size<=g∧zCG w' g (zOV W l v)∧Below w.heap.size w w':=by
 obtain⟨wa,hwa⟩:=exq (w.alloc (.cells #[.int .i64 0,.int .i64 1] 29))
 have hba:Below w.heap.size w wa:=by rw[hwa];exact(Below.refl _ _).alloc (Nat.le_refl _) _
 have hr1:zBE wa (some ⟨w.heap.size,0,none⟩) [(0,1)]:=by
  intro j hj
  match j,hj with
  |0,_=>exact⟨_,0,rfl,by rw[hwa];simp,by rw[hwa,World.cell?_alloc_at _ _ _ _ rfl];rfl,by rw[hwa,World.cell?_alloc_at _ _ _ _ rfl];rfl⟩
 have HRP:=hid (repeat_c wa (some ⟨w.heap.size,0,none⟩) 1 (0,1) hr1 W hW1 hW)
 have HBA:=hid hba
 have HI:=hid (fun(X:World) (hX:Below w.heap.size w X)=>H.below hX)
 have HV:=hid (fun(X:World) (hX:Below w.heap.size w X)=>H2.below hX)
 have HBD:=hid hb
 have HK:=hid hk
 have HK2:=hid hk2
 have HT0:=hid (show zDL W l v 0=List.replicate W (0,1)from rfl)
 have HTS:=hid (fun t=>zID W l v t)
 have HTL:=hid (fun t=>spreadTo_len W l v t)
 have HTE:=hid (show zDL W l v k=zOV W l v by unfold zDL zOV;rw[hk])
 clear hba hr1 H H2 hb hk hk2
 go_enter Tryz.func162,Tryz.ntmps162
 go_wp2_with fail
 rw[<- hwa]
 clear hwa
 go_wp2_with (go_at_call 186;refine HRP.out.mono ?_;rintro e w1 ⟨g,rfl,hg,hrb,hb1⟩;refine Stop.of ?_)
 refine Stop.go ?_
 have HG:=hid (show w.heap.size<=g from Nat.le_trans HBA.out.size hg)
 have HRB:=hid hrb
 have HB1:=hid (zAA HBA.out hb1)
 clear hg hrb hb1 HRP HBA
 go_wp2
 go_loopw [16] (fun i wr=>∃t:Nat,t<=k∧i=.int .i64 t∧zCG wr g (zDL W l v t)∧Below w.heap.size w wr) (fun i _=>k-(intOf i).toNat)
 case atStart=>exact⟨0,Nat.zero_le _,rfl,by rw[HT0.out];exact HRB.out,HB1.out⟩
 case round=>
  obtain⟨t,ht,rfl,hrt,hbt⟩:=hrel
  by_cases htl:t<k
  ·have htk:t<l.length:=by rw[HK.out];exact htl
   have htv:t<v.length:=by rw[HK2.out];omega
   obtain⟨b5,o5,rfl,hb5,hc5⟩:=(HI.out wr hbt) t htk
   obtain⟨b6,o6,rfl,hb6,h60,h61⟩:=(HV.out wr hbt) t htv
   obtain⟨d1,d2⟩:=HBD.out t htl
   have hts:=HTS.out t
   rw[List.getElem?_eq_getElem htv,Option.getD_some]at hts
   obtain⟨⟨r1,r2⟩,hr⟩:∃r,r=v[t]'htv:=⟨_,rfl⟩
   rw[<- hr]at h60 h61 hts
   obtain⟨p,hp⟩:∃p:Nat,(p:Int)=l[t]?.getD 0:=⟨(l[t]?.getD 0).toNat,by omega⟩
   rw[<- hp]at hc5 d1 d2 hts
   rw[Int.toNat_natCast]at hts
   have hpl:p<(zDL W l v t).length:=by rw[HTL.out];omega
   obtain⟨c0,c1,cf⟩:=hrt.cells hpl
   have f0:=cf (p*2)
   have f1:=cf (p*2+1)
   have hset:=hrt.set hpl r1 r2
   rw[<- hts]at hset
   have HSET:=hid hset
   have HBE:=hid (show Below w.heap.size w ((wr.setCell ⟨g,p*2,none⟩ (.int .i64 r1)).setCell ⟨g,p*2+1,none⟩ (.int .i64 r2))from zAG (zAG hbt HG.out _ _) HG.out _ _)
   have hgl:=hrt.lt
   have i1:(t:Int)<(k:Int):=by omega
   have i2:(t:Int)<(k2:Int):=by omega
   have i3:(p:Int)<(W:Int):=d2
   obtain⟨z0,k0⟩:∃z,wr.cell? ⟨g,p*2,none⟩=some (.int .i64 z):=⟨_,c0⟩
   obtain⟨z1,k1⟩:∃z,wr.cell? ⟨g,p*2+1,none⟩=some (.int .i64 z):=⟨_,c1⟩
   clear hset hts hr hp hrt hbt cf d1 d2 c0 c1 hpl
   go_wp2
   refine⟨⟨t+1,by omega,by go_num,HSET.out,HBE.out⟩,by simp[intOf];omega⟩
  ·obtain rfl:t=k:=by omega
   have hni:¬(t:Int)<(t:Int):=by omega
   rw[HTE.out]at hrt
   go_wp2
   go_ret
   exact⟨g,rfl,HG.out,hrt,hbt⟩
end
section
open Go.RowKit
def HdF(W:World)(us ur:Value)(f:FitT):Prop:=∃pa pn pc va vn vc,us=.slice pa pn pc∧ur=.slice va vn vc∧f.1.length=pn∧pn<=maxLen∧zAI W pa f.1∧f.2.length=vn∧vn<=maxLen∧zBE W va f.2
theorem HdF.below{W W':World}{us ur:Value}{f:FitT}(h:HdF W us ur f)(hb:Below W.heap.size W W'):HdF W' us ur f:=by
 obtain⟨pa,pn,pc,va,vn,vc,e1,e2,h1,h2,h3,h4,h5,h6⟩:=h
 exact⟨pa,pn,pc,va,vn,vc,e1,e2,h1,h2,h3.below hb,h4,h5,h6.below hb⟩
theorem zJM.hd{W:World}{a:Option Addr}{T:List FitT}(h:zJM W a T){j:Nat}(hj:j<T.length):
 ∃b off us ur,a=some ⟨b,off,none⟩∧b<W.heap.size∧W.cell? ⟨b,off+j*2,none⟩=some us∧W.cell? ⟨b,off+j*2+1,none⟩=some ur∧HdF W us ur T[j]:=by
 obtain⟨b,off,pa,pn,pc,va,vn,vc,e,hb,h0,h1,h2,h3,h4,h5,h6,h7⟩:=h j hj
 exact⟨b,off,_,_,e,hb,h0,h1,pa,pn,pc,va,vn,vc,rfl,rfl,h2,h3,h4,h5,h6,h7⟩
def TabF(X W:World)(v:Value)(T:List FitT):Prop:=
 ∃xs,W.ownsRow X.heap.size 73 2 v T.length xs∧∀j (hj:j<T.length),∃us ur,xs[j*2]? =some us∧xs[j*2+1]? =some ur∧HdF X us ur T[j]
theorem TabF.nil(X W:World):TabF X W (.slice none 0 0) []:=⟨[],World.ownsRow_nil _ _ _ _,fun j hj=>by simp at hj⟩
theorem TabF.below{X W W':World}{v:Value}{T:List FitT}(h:TabF X W v T)(hb:Below W.heap.size W W'):TabF X W' v T:=by
 obtain⟨xs,h1,h2⟩:=h
 exact⟨xs,zBI h1 hb,h2⟩
theorem TabF.slice{X W:World}{v:Value}{T:List FitT}(h:TabF X W v T):∃a c,v=.slice a T.length c:=by
 obtain⟨xs,ho,_⟩:=h;exact zAD ho
theorem TabF.snoc{X w2:World}{v' us ur:Value}{T:List FitT}{t:FitT}{xs:List Value}{q:Nat}(hq:T.length=q)
 (hl:xs.length=q*2)(he:∀j (hj:j<T.length),∃us ur,xs[j*2]? =some us∧xs[j*2+1]? =some ur∧HdF X us ur T[j])(h1:HdF X us ur t)
 (ho':w2.ownsRow X.heap.size 73 2 v' (q+1) (xs++[us,ur])):TabF X w2 v' (T++[t]):=by
 subst hq
 refine⟨xs++[us,ur],by rw[List.length_append];exact ho',fun j hj=>?_⟩
 by_cases e:j<T.length
 ·obtain⟨us',ur',k1,k2,k3⟩:=he j e
  refine⟨us',ur',by rw[List.getElem?_append_left (by omega)];exact k1,by rw[List.getElem?_append_left (by omega)];exact k2,?_⟩
  rw[List.getElem_append_left e];exact k3
 ·have:j=T.length:=by simp at hj;omega
  subst this
  refine⟨us,ur,by rw[List.getElem?_append_right (by omega),hl];simp,by rw[List.getElem?_append_right (by omega),hl,show T.length*2+1-T.length*2=1 by omega];rfl,?_⟩
  simp only[List.getElem_append_right (Nat.le_refl _),Nat.sub_self,List.getElem_cons_zero];exact h1
theorem TabF.at{X W:World}{v:Value}{T:List FitT}(h:TabF X W v T){j:Nat}(hj:j<T.length):
 ∃g cap us ur,v=.slice (some ⟨g,0,none⟩) T.length cap∧X.heap.size<=g∧g<W.heap.size∧W.cell? ⟨g,j*2,none⟩=some us∧W.cell? ⟨g,j*2+1,none⟩=some ur∧HdF X us ur T[j]∧(∀o,W.frozen? ⟨g,o,none⟩=false)∧
  ∀us' ur' f',HdF X us' ur' f'->TabF X ((W.setCell ⟨g,j*2,none⟩ us').setCell ⟨g,j*2+1,none⟩ ur') v (T.set j f'):=by
 obtain⟨xs,h1,h2⟩:=h
 obtain⟨us,ur,hu,hr,hd⟩:=h2 j hj
 rcases h1.2 with⟨rfl,h0⟩|⟨g,cap,cur,rfl,hbg,hgg,hnc,hcm,hsz,htk⟩
 ·omega
 have hcell:=fun i hi=>World.ownsRow.cellAt (w:=W) (base:=X.heap.size) (e:=73) (size:=2) (g:=g) (n:=T.length) (cap:=cap) (xs:=xs) h1 i hi
 have hvl:xs.length=T.length*2:=h1.1
 refine⟨g,cap,us,ur,rfl,hbg,(Array.getElem?_eq_some_iff.1 hgg).1,by rw[hcell _ (by omega)];exact hu,by rw[hcell _ (by omega)];exact hr,hd,fun o=>by simp[World.frozen?,hgg],?_⟩
 intro us' ur' f' hf'
 have hb2:((W.setCell ⟨g,j*2,none⟩ us').setCell ⟨g,j*2+1,none⟩ ur').heap[g]? =some (.cells ((cur.setIfInBounds (j*2) us').setIfInBounds (j*2+1) ur') 73 (0,0)):=zAP (zAP hgg _ us') _ ur'
 refine⟨(xs.set (j*2) us').set (j*2+1) ur',⟨by simpa using h1.1,.inr ⟨g,cap,(cur.setIfInBounds (j*2) us').setIfInBounds (j*2+1) ur',by simp,hbg,hb2,by simpa using hnc,hcm,by simpa using hsz,?_⟩⟩,fun i hi=>?_⟩
 ·rw[<- htk]
  simp only[Array.toList_setIfInBounds,List.length_set]
  rw[List.take_set,List.take_set]
 ·have hi':i<T.length:=by simpa using hi
  by_cases e:j=i
  ·subst e
   refine⟨us',ur',?_,?_,by simpa using hf'⟩
   ·rw[List.getElem?_set_ne (by omega),List.getElem?_set_self (by omega)]
   ·rw[List.getElem?_set_self (by rw[List.length_set];omega)]
  ·obtain⟨u2,r2,hu2,hr2,hd2⟩:=h2 i hi'
   refine⟨u2,r2,?_,?_,by rw[List.getElem_set_ne e];exact hd2⟩
   ·rw[List.getElem?_set_ne (by omega),List.getElem?_set_ne (by omega)];exact hu2
   ·rw[List.getElem?_set_ne (by omega),List.getElem?_set_ne (by omega)];exact hr2
end
section
open Go.RowKit
theorem r3validR_c(w:World)(N D:Int):Calls Tryz.prog 156 #[.agg #[.int .i64 N,.int .i64 D]] w fun e w'=>e=.returned (.bool (zAH (N,D)))∧Below w.heap.size w w':=by
 obtain⟨wz,hwz⟩:=exq (w.alloc (.cells #[.int .i64 N,.int .i64 D] 29))
 have hbz:Below w.heap.size w wz:=by rw[hwz];exact(Below.refl _ _).alloc (Nat.le_refl _) _
 have l0:wz.cell? ⟨w.heap.size,0,none⟩=some (.int .i64 N):=by rw[hwz,World.cell?_alloc_at _ _ _ _ rfl];rfl
 have l1:wz.cell? ⟨w.heap.size,1,none⟩=some (.int .i64 D):=by rw[hwz,World.cell?_alloc_at _ _ _ _ rfl];rfl
 have HBZ:=hid hbz
 have HV:=hid (show zAH (N,D)=(decide (1<=D)&&(decide (D<=400)&&(decide (-10000000000<=N)&&(decide (N<=10000000000)&&decide (Int.gcd N D=1)))))from rfl)
 have HW1:=hid (fun(X:World)=>zHE D 1 400 X)
 have HW2:=hid (fun(X:World)=>zHE N (-10000000000) 10000000000 X)
 clear hbz
 by_cases h1:1<=D∧D<=400
 ·have e1:inB D 1 400=true:=by simp[inB,h1.1,h1.2]
  rw[e1]at HW1
  by_cases h3: -10000000000<=N∧N<=10000000000
  ·have e2:inB N (-10000000000) 10000000000=true:=by simp[inB,h3.1,h3.2]
   rw[e2]at HW2
   have HD:=hid (fun X=>zHW X N D (by omega) (by omega))
   obtain⟨g,hg⟩:∃g:Int,g=((Int.gcd N D:Nat):Int):=⟨_,rfl⟩
   rw[<- hg]at HD
   have HB:=hid (show zAH (N,D)=(g==1)from by
    rw[HV.out,decide_eq_true h1.1,decide_eq_true h1.2,decide_eq_true h3.1,decide_eq_true h3.2]
    simp only[Bool.true_and]
    rw[Bool.eq_iff_iff,decide_eq_true_iff]
    simp only[beq_iff_eq]
    omega)
   clear hg HV e1 e2 h1 h3
   go_enter Tryz.func156,Tryz.ntmps156
   go_wp2_with fail
   rw[<- hwz]
   clear hwz
   go_wp2_with (go_at_call 174;refine(HW1.out _).mono ?_;rintro e w2 ⟨rfl,rfl⟩;refine Stop.of ?_)
   refine Stop.go ?_
   go_wp2_with (go_at_call 174;refine(HW2.out _).mono ?_;rintro e w2 ⟨rfl,rfl⟩;refine Stop.of ?_)
   refine Stop.go ?_
   go_wp2_with (go_at_call 211;refine(HD.out _).mono ?_;rintro e w2 ⟨rfl,k2,rfl⟩;refine Stop.of ?_)
   refine Stop.go ?_
   go_wp2
   go_ret
   exact⟨zAT (by rw[HB.out]),zAJ HBZ.out k2⟩
  ·have e2:inB N (-10000000000) 10000000000=false:=by
    rw[inB,Bool.and_eq_false_iff,decide_eq_false_iff_not,decide_eq_false_iff_not];omega
   rw[e2]at HW2
   have HB:=hid (show zAH (N,D)=false from by
    cases h:zAH (N,D)with
    |false=>rfl
    |true=>have:=zAW.1 h;exact absurd ⟨this.2.2.1,this.2.2.2.1⟩ h3)
   clear HV e1 e2 h1 h3
   go_enter Tryz.func156,Tryz.ntmps156
   go_wp2_with fail
   rw[<- hwz]
   clear hwz
   go_wp2_with (go_at_call 174;refine(HW1.out _).mono ?_;rintro e w2 ⟨rfl,rfl⟩;refine Stop.of ?_)
   refine Stop.go ?_
   go_wp2_with (go_at_call 174;refine(HW2.out _).mono ?_;rintro e w2 ⟨rfl,rfl⟩;refine Stop.of ?_)
   refine Stop.go ?_
   go_wp2
   go_ret
   exact⟨zAT (by rw[HB.out]),HBZ.out⟩
 ·have e1:inB D 1 400=false:=by
   rw[inB,Bool.and_eq_false_iff,decide_eq_false_iff_not,decide_eq_false_iff_not];omega
  rw[e1]at HW1
  have HB:=hid (show zAH (N,D)=false from by
   cases h:zAH (N,D)with
   |false=>rfl
   |true=>have:=zAW.1 h;exact absurd ⟨this.1,this.2.1⟩ h1)
  clear HV e1 h1 HW2
  go_enter Tryz.func156,Tryz.ntmps156
  go_wp2_with fail
  rw[<- hwz]
  clear hwz
  go_wp2_with (go_at_call 174;refine(HW1.out _).mono ?_;rintro e w2 ⟨rfl,rfl⟩;refine Stop.of ?_)
  refine Stop.go ?_
  go_wp2
  go_ret
  exact⟨zAT (by rw[HB.out]),HBZ.out⟩
theorem r3validRs_c(w:World)(a:Option Addr)(n cap:Nat)(l:List Rt)(hn:l.length=n)(hm:n<=maxLen)(H:zBE w a l):
 Calls Tryz.prog 85 #[.slice a n cap] w fun e w'=>e=.returned (.bool (l.all zAH))∧Below w.heap.size w w':=by
 have HN:=hid hn
 have HH:=hid H
 have HP:=hid (fun(X:World) (N D:Int)=>r3validR_c X N D)
 have HST:=hid (fun(k:Nat) (hk:k<l.length) (h:zAH l[k]=false)=>zHO (p:=zAH) hk h)
 have HDN:=hid (fun(h:∀j (hj:j<l.length),zAH l[j]=true)=>zJK (p:=zAH) h)
 obtain⟨B,hB⟩:=exq (l.all zAH)
 rw[<- hB]at HST HDN⊢
 clear hn H hB
 unfold maxLen at hm
 go_enter Tryz.func85,Tryz.ntmps85
 go_wp2
 go_loopw [7] (fun i wr=>∃k:Nat,k<=n∧i=.int .i64 k∧Below w.heap.size w wr∧Hid (∀j (hj:j<l.length),j<k->zAH l[j]=true)) (fun i _=>n-(intOf i).toNat)
 case atStart=>exact⟨0,Nat.zero_le _,rfl,Below.refl _ _,hid (fun i y h=>by omega)⟩
 case round=>
  obtain⟨k,hk,rfl,hb,HNO⟩:=hrel
  by_cases hlt:k<n
  ·have hkl:k<l.length:=by rw[HN.out];exact hlt
   obtain⟨b,off,rfl,hbs,h0,h1⟩:=(HH.out.below hb) k hkl
   have HSK:=hid (HST.out k hkl)
   have HNX:=hid (fun(h:zAH l[k]=true)=>show ∀j (hj:j<l.length),j<k+1->zAH l[j]=true from fun j hj hjk=>by
    by_cases e:j=k
    ·subst e;exact h
    ·exact HNO.out j hj (by omega))
   obtain⟨⟨r1,r2⟩,hr⟩:∃r,r=l[k]'hkl:=⟨_,rfl⟩
   rw[<- hr]at h0 h1 HSK HNX
   simp only[]at h0 h1
   obtain⟨V,hV⟩:=exq (zAH (r1,r2))
   have HC:=hid (fun(X:World)=>HP.out X r1 r2)
   rw[<- hV]at HC HSK HNX
   have HB:=hid hb
   clear hr hV hkl hb HNO
   have i1:(k:Int)<(n:Int):=by omega
   go_wp2_with (go_at_call 156;refine(HC.out _).mono ?_;rintro e w1 ⟨rfl,hb1⟩;refine Stop.of ?_)
   refine Stop.go ?_
   have HB1:=hid (show Below w.heap.size w w1 from HB.out.trans ((((Below.refl _ wr).alloc (Nat.le_refl _) (.cells #[.int .i64 r1,.int .i64 r2] 29)).trans (hb1.mono (by simp))).mono HB.out.size))
   clear hb1 HC
   cases V
   ·obtain rfl:B=false:=HSK.out rfl
    go_wp2
    go_ret
    exact⟨rfl,HB1.out⟩
   ·have HX:=hid (HNX.out rfl)
    go_wp2
    exact⟨⟨k+1,by omega,by go_num,HB1.out,HX⟩,by simp[intOf];omega⟩
  ·obtain rfl:k=n:=by omega
   obtain rfl:B=true:=HDN.out fun j hj=>HNO.out j hj (by have:=HN.out;omega)
   go_wp2
   go_ret
   exact⟨rfl,hb⟩
theorem r3makes_c(w:World)(a a2 a3:Option Addr)(n cap n2 cap2 n3 cap3:Nat)(M:Mask)(x:List Rt)(y:List Int)(hn:M.length=n)(hn2:x.length=n2)(hn3:y.length=n3)(hm:n<=maxLen)(hm2:n2<=maxLen)(hm3:n3<=maxLen)(H:zAN w a M)(H2:zBE w a2 x)(H3:zAI w a3 y):
 Calls Tryz.prog 30 #[.slice a n cap,.slice a2 n2 cap2,.slice a3 n3 cap3] w fun e w'=>e=.returned (.bool (zCF M x y))∧Below w.heap.size w w':=by
 have HRD:=hid (zMK w a a3 n cap n3 cap3 M y hn hn3 hm hm3 H H3)
 have HN1:=hid (mk_no1 (M:=M) (x:=x) (y:=y))
 have HN2:=hid (mk_no2 (M:=M) (x:=x) (y:=y))
 have HN3:=hid (mk_no3 (M:=M) (x:=x) (y:=y))
 obtain⟨B,hB⟩:=exq (zCF M x y)
 rw[<- hB]at HN1 HN2 HN3⊢
 by_cases h0:rdE M y=0
 rotate_left
 ·rw[decide_eq_false h0]at HRD
  obtain rfl:B=false:=HN1.out h0
  clear hn hn2 hn3 H H2 H3 hB h0 HN2 HN3
  go_enter Tryz.func30,Tryz.ntmps30
  go_wp2_with (go_at_call 17;refine HRD.out.mono ?_;rintro e w1 ⟨rfl,rfl⟩)
  go_ret
  exact⟨rfl,Below.refl _ _⟩
 rw[decide_eq_true h0]at HRD
 obtain⟨hok,hyl,hmil⟩:=zHV h0
 obtain⟨hM,h1,h6,hc1,hc10⟩:=zDJ hok
 obtain⟨b,off,ra,rc,rfl,hb,hc⟩:=zEA H (by omega)
 have HN4:=hid (fun i (hi:i<M.length) h=>mk_no4 (x:=x) (y:=y) hi h)
 have HYS:=hid (fun h2 h3 h4=>mk_yes (M:=M) (x:=x) (y:=y) h0 h2 h3 h4)
 rw[<- hB]at HYS HN4
 have i0:(0:Int)<(n:Int):=by omega
 have HCI:=hid (fun(X:World) (hX:Below w.heap.size w X)=>r3validRs_c X a2 n2 cap2 x hn2 hm2 (H2.below hX))
 have HRW:=hid (fun(X:World) (hX:Below w.heap.size w X)=>H.below hX)
 have HXI:=hid (fun(X:World) (hX:Below w.heap.size w X)=>H2.below hX)
 have HYI:=hid (fun(X:World) (hX:Below w.heap.size w X)=>H3.below hX)
 have HMW:=hid (show ∀r∈M,r.length=zAC M∧∀k,-1<=vec r k∧vec r k<=1 from fun r hr=>⟨hM.wid r hr,hM.one r hr⟩)
 have HYB:=hid (mil_le hmil)
 have HN:=hid hn
 have HNX:=hid hn2
 have HNY:=hid hn3
 have HHN:=hid (show n3=n by omega)
 have hn6:n<=6:=by omega
 obtain⟨W,hW⟩:=exq (zAC M)
 rw[<- hW]at hc HN2 HN4 HYS HMW hc10 hc1
 clear hn hn2 hn3 H H2 H3 hB h0 hok hyl hmil hM h1 h6 HN1 hW
 by_cases hlw:n2=W
 rotate_left
 ·obtain rfl:B=false:=HN2.out (by rw[HNX.out];exact hlw)
  have hlb:((n2:Int) !=(W:Int))=true:=by simp;omega
  clear HN3 HN4 HYS HCI HRW HXI HYI HMW HYB
  go_enter Tryz.func30,Tryz.ntmps30
  go_wp2_with (go_at_call 17;refine HRD.out.mono ?_;rintro e w1 ⟨rfl,rfl⟩;refine Stop.of ?_)
  refine Stop.go ?_
  go_wp2
  go_ret
  exact⟨rfl,Below.refl _ _⟩
 subst hlw
 have hlb:((n2:Int) !=(n2:Int))=false:=by simp
 obtain⟨V,hV⟩:=exq (x.all zAH)
 rw[<- hV]at HCI
 have HVV:=hid hV.symm
 have HCI1:=hid (HCI.out _ (Below.refl _ _))
 clear hV HCI
 go_enter Tryz.func30,Tryz.ntmps30
 go_wp2_with (go_at_call 17;refine HRD.out.mono ?_;rintro e w1 ⟨rfl,rfl⟩;refine Stop.of ?_)
 refine Stop.go ?_
 go_wp2_with (go_at_call 85;refine HCI1.out.mono ?_;rintro e w2 ⟨rfl,hb2⟩;refine Stop.of ?_)
 refine Stop.go ?_
 have HB2:=hid hb2
 clear hb2 HCI1 hc HRD
 cases V
 ·obtain rfl:B=false:=HN3.out HVV.out
  go_wp2
  go_ret
  exact⟨rfl,HB2.out⟩
 ·have hall:x.all zAH=true:=HVV.out
  have hxv:∀k,1<=(zAB x k).2∧(zAB x k).2<=400∧ -10000000000<=(zAB x k).1∧(zAB x k).1<=10000000000:=fun k=>by
   unfold zAB
   cases e:x[k]? with
   |none=>decide
   |some r=>
    have:=List.all_eq_true.1 hall r (List.mem_of_getElem? e)
    rw[zAW]at this
    exact⟨this.1,this.2.1,this.2.2.1,this.2.2.2.1⟩
  have HXV:=hid hxv
  have HYS2:=hid (HYS.out HNX.out hall)
  clear hall hxv HN2 HN3 HYS HVV
  go_wp2
  go_loopw [29] (fun i wr=>∃k:Nat,k<=n∧i=.int .i64 k∧Below w.heap.size w wr∧Hid (∀q,q<k->(sumR (M[q]?.getD []) x n2).1=(sumR (M[q]?.getD []) x n2).2*vec y q)) (fun i _=>n-(intOf i).toNat)
  case atStart=>exact⟨0,Nat.zero_le _,rfl,HB2.out,hid (fun q h=>by omega)⟩
  case round=>
   obtain⟨k,hk,rfl,hbk,HQ⟩:=hrel
   by_cases hlt:k<n
   ·have hkM:k<M.length:=by rw[HN.out];exact hlt
    obtain⟨b5,o5,ra5,rn5,rc5,e5,hb5,hc5,hrn5,hrm5,hri5⟩:=(HRW.out wr hbk) k hkM
    cases e5
    obtain⟨hwid,hone⟩:=HMW.out _ (List.getElem_mem hkM)
    obtain rfl:rn5=n2:=by omega
    have hrowe:M[k]?.getD []=M[k]:=by rw[List.getElem?_eq_getElem hkM];rfl
    have HNK:=hid (HN4.out k hkM)
    rw[hrowe]at HNK
    have HQX:=hid (fun(h:(sumR M[k] x rn5).1=(sumR M[k] x rn5).2*vec y k)=>show ∀q,q<k+1->(sumR (M[q]?.getD []) x rn5).1=(sumR (M[q]?.getD []) x rn5).2*vec y q from fun q hq=>by
     rcases Nat.lt_or_ge q k with h3|h3
     ·exact HQ.out q h3
     ·obtain rfl:q=k:=by omega
      rw[hrowe];exact h)
    have HSE:=hid (fun(X:World) (hX:Below wr.heap.size wr X)=>sees_c X ra5 a2 rn5 rc5 rn5 cap2 M[k] x hrn5 HNX.out (Nat.le_refl _) (by omega) (hri5.below hX) (HXI.out X (zAA hbk hX)) (fun j=>by have:=hone j;omega) (fun j=>by have:=HXV.out j;omega))
    have hkY:k<y.length:=by rw[HNY.out,HHN.out];exact hlt
    obtain⟨by7,oy7,rfl,hby,hcy⟩:=(HYI.out wr hbk) k hkY
    have hvy:y[k]?.getD 0=vec y k:=rfl
    rw[hvy]at hcy
    have hyb:=zED (P:=fun z=> -1000000<=z∧z<=1000000) (by decide) HYB.out k
    obtain⟨yv,hyv⟩:=exq (vec y k)
    rw[<- hyv]at hcy hyb HNK HQX
    obtain⟨⟨sn,sd⟩,hS⟩:∃q,q=sumR M[k] x rn5:=⟨_,rfl⟩
    rw[<- hS]at HNK HQX HSE
    simp only[]at HNK HQX HSE
    have HWH:=hid (fun(X:World)=>whole_v X yv (by omega))
    obtain⟨cv,hcv⟩:=exq (cmpI sn (yv*sd))
    have HCZ:=hid (show(cv=0↔sn=sd*yv)from by rw[hcv,Int.mul_comm yv sd];unfold cmpI;split<;>(try split)<;>omega)
    have HOR:=hid (fun(X:World) (v u:Value) (h:RatV X v 90 sn sd) (k:RatV X u 3 yv 1)=>show Calls Tryz.prog 21 #[v,u] X (fun e' w'=>e'=.returned (.int .i64 cv)∧Below X.heap.size X w')from by
     have:=rorder_v X v u 90 3 sn sd yv 1 h k (by omega) (by omega)
     rwa [Int.mul_one,<- hcv]at this)
    have HS:=hid (fun(X:World) (hX:Below wr.heap.size wr X)=>show X.cell? ⟨by7,oy7+k,none⟩=some (.int .i64 yv)from(hX.cell (p:=⟨by7,_,none⟩) hby).trans hcy)
    have HBK:=hid hbk
    have i1:(k:Int)<(n:Int):=by omega
    have i3:(k:Int)<(n3:Int):=by have:=HHN.out;omega
    clear hrowe hri5 hrn5 hkM hone hwid hbk HN4 HQ hS hyv hkY hvy hyb hcv hcy
    go_wp2
    refine zAF (fun j' X=>wAll j'=true->X.cell? ⟨by7,oy7+k,none⟩=some (.int .i64 yv)) (by kernel_rfl) ?_
    have hbd:Below wr.heap.size wr wr.drew:=(Below.refl _ _).drew
    generalize wr.drew=wd at hbd⊢
    refine AnyT.tD (i:=0) (v:=.slice ra5 rn5 rc5) rfl rfl (by rintro w' y1;go_simp) (HS.out _ hbd) ?_;go_frame
    refine AnyT.tD (i:=1) (v:=.slice a2 rn5 cap2) rfl rfl (by rintro w' y1;go_simp) (HS.out _ hbd) ?_;go_frame
    refine AnyT.tD (i:=3) (v:=.slice (some ⟨by7,oy7,none⟩) n3 cap3) rfl rfl (by rintro w' y1;go_simp) (HS.out _ hbd) ?_;go_frame
    refine AnyT.tD (i:=4) (v:=.int .i64 k) rfl rfl (by rintro w' y1;go_simp) (HS.out _ hbd) ?_;go_frame
    refine AnyT.tD (i:=5) (v:=.pointer (some ⟨by7,oy7+k,none⟩)) rfl rfl (by rintro w' y1;go_simp) (HS.out _ hbd) ?_;go_frame
    refine AnyT.tD (i:=6) (v:=.int .i64 yv) rfl rfl (by rintro w' y1;go_simp) (HS.out _ hbd) ?_;go_frame
    refine AnyT.nx (i:=2) rfl ?_
    go_wp2_with (go_at_call 90;refine(HSE.out _ hbd).mono ?_;rintro e w4 ⟨v4,rfl,hv4,hb4⟩;refine Stop.of ?_)
    refine Stop.go ?_
    have HB4:=hid (zAA hbd hb4)
    have HV4:=hid hv4
    clear hv4 hb4 HSE
    go_wp2
    refine⟨fun _=>HS.out _ HB4.out,?_⟩
    refine AnyT.nx (i:=7) rfl ?_
    go_wp2_with (go_at_call 91;refine(HWH.out _).mono ?_;rintro e w5 ⟨v5,rfl,hv5,hb5⟩;refine Stop.of ?_)
    refine Stop.go ?_
    have HB5:=hid (zAA HB4.out hb5)
    have HV5:=hid hv5
    have HV6:=hid (HV4.out.below hb5)
    clear hv5 hb5 HWH HV4
    go_wp2
    refine⟨fun _=>HS.out _ HB5.out,?_⟩
    refine AnyT.nx (i:=8) rfl ?_
    go_wp2_with (go_at_call 21;refine(HOR.out _ _ _ HV6.out HV5.out).mono ?_;rintro e w6 ⟨rfl,hb6⟩;refine Stop.of ?_)
    refine Stop.go ?_
    have HB6:=hid (zAA HBK.out (zAA HB5.out hb6))
    have HS6:=hid (HS.out _ (zAA HB5.out hb6))
    clear hb6 HV5 HV6
    go_wp2
    refine⟨fun _=>HS6.out,?_⟩
    refine AnyT.nx (i:=9) rfl ?_
    go_wp2
    refine⟨fun _=>HS6.out,?_⟩
    refine AnyT.done (by kernel_rfl) ?_ _
    by_cases hc0:cv=0
    ·have hcb:(cv !=0)=false:=by simp[hc0]
     have HX:=hid (HQX.out (HCZ.out.1 hc0))
     go_wp2
     exact⟨⟨k+1,by omega,by go_num,HB6.out,HX⟩,by simp[intOf];omega⟩
    ·have hcb:(cv !=0)=true:=by simp[hc0]
     obtain rfl:B=false:=HNK.out (fun h=>hc0 (HCZ.out.2 h))
     go_wp2
     go_ret
     exact⟨rfl,HB6.out⟩
   ·obtain rfl:k=n:=by omega
    obtain rfl:B=true:=HYS2.out (fun i hi=>HQ.out i (by have:=HN.out;omega))
    go_wp2
    go_ret
    exact⟨rfl,hbk⟩
end
section
theorem ratio_step{n:Nat}{l h:Nat->Int}(hpos:∃j,j<n∧0<l j*h j):
 ∃(A B:Int) (p:Nat),0<A∧0<B∧p<n∧l p≠0∧0<l p*h p∧A*l p-B*h p=0∧∀j,j<n->0<=(A*l j-B*h j)*l j:=by
 obtain⟨p,hp,hPp,hmin⟩:=zMR (P:=fun j=>0<l j*h j) (a:=fun j=>((l j).natAbs:Int)) (b:=fun j=>((h j).natAbs:Int)) (fun j _=>by omega) (fun j hj=>by
  have:h j≠0:=fun hz=>by rw[hz]at hj;simp at hj
  omega) n hpos
 have hhp:h p≠0:=fun hz=>by rw[hz]at hPp;simp at hPp
 have hlp:l p≠0:=fun hz=>by rw[hz]at hPp;simp at hPp
 obtain⟨A,hA⟩:∃A:Int,A=((h p).natAbs:Int):=⟨_,rfl⟩
 obtain⟨B,hB⟩:∃B:Int,B=((l p).natAbs:Int):=⟨_,rfl⟩
 have hA0:0<A:=by omega
 have hB0:0<B:=by omega
 have hkp:A*l p-B*h p=0:=by
  rw[hA,hB]
  rcases Int.lt_or_gt_of_ne hhp with c1|c1
  ·have c2:l p<0:=by
    rcases Int.lt_or_gt_of_ne hlp with c2|c2
    ·exact c2
    ·have:=Int.mul_neg_of_pos_of_neg c2 c1;omega
   have e1:((h p).natAbs:Int)= -h p:=by omega
   have e2:((l p).natAbs:Int)= -l p:=by omega
   rw[e1,e2];grind
  ·have c2:0<l p:=by
    rcases Int.lt_or_gt_of_ne hlp with c2|c2
    ·have:=Int.mul_neg_of_neg_of_pos c2 c1;omega
    ·exact c2
   have e1:((h p).natAbs:Int)=h p:=by omega
   have e2:((l p).natAbs:Int)=l p:=by omega
   rw[e1,e2];grind
 refine⟨A,B,p,hA0,hB0,hp,hlp,hPp,hkp,fun j hj=>?_⟩
 have e1:(A*l j-B*h j)*l j=A*(l j*l j)-B*(l j*h j):=by grind
 rw[e1]
 have sq:0<=l j*l j:=by
  rcases Int.lt_or_le (l j) 0 with c1|c1
  ·exact Int.le_of_lt (Int.mul_pos_of_neg_of_neg c1 c1)
  ·exact Int.mul_nonneg c1 c1
 have e2:0<=A*(l j*l j):=Int.mul_nonneg (by omega) sq
 rcases Int.lt_or_le 0 (l j*h j)with c1|c1
 ·have h1:((l p).natAbs:Int)*((h j).natAbs:Int)<=((l j).natAbs:Int)*((h p).natAbs:Int):=hmin j hj c1
  rw[<- hA,<- hB]at h1
  have h2:B*((h j).natAbs:Int)*((l j).natAbs:Int)<=((l j).natAbs:Int)*A*((l j).natAbs:Int):=Int.mul_le_mul_of_nonneg_right h1 (by omega)
  have h3:((l j).natAbs:Int)*((l j).natAbs:Int)=l j*l j:=by rw[<- Int.natCast_mul,<- Int.natAbs_mul,Int.natAbs_of_nonneg sq]
  have h4:((h j).natAbs:Int)*((l j).natAbs:Int)=l j*h j:=by rw[Int.mul_comm,<- Int.natCast_mul,<- Int.natAbs_mul,Int.natAbs_of_nonneg (by omega)]
  have h5:B*((h j).natAbs:Int)*((l j).natAbs:Int)=B*(l j*h j):=by rw[Int.mul_assoc,h4]
  have h6:((l j).natAbs:Int)*A*((l j).natAbs:Int)=A*(l j*l j):=by rw[<- h3];grind
  omega
 ·have:B*(l j*h j)<=0:=Int.mul_nonpos_of_nonneg_of_nonpos (by omega) c1
  omega
structure Space (n:Nat) (V:(Nat->Int)->Prop):Prop where
 lin:∀(u v:Nat->Int) (a b:Int),V u->V v->V (fun j=>a*u j+b*v j)
 ext:∀(u v:Nat->Int),V u->(∀j,j<n->u j=v j)->V v
def NzV(n:Nat)(v:Nat->Int):Prop:=∃j,j<n∧v j≠0
def SubV(n:Nat)(u v:Nat->Int):Prop:=∀j,j<n->u j≠0->v j≠0
def Conf(n:Nat)(u v:Nat->Int):Prop:=∀j,j<n->u j≠0->0<u j*v j
def ElemV(n:Nat)(V:(Nat->Int)->Prop)(u:Nat->Int):Prop:=V u∧NzV n u∧∀h,V h->NzV n h->SubV n h u->SubV n u h
theorem zPI{a b c:Int}(h1:0<a*b)(h2:0<b*c):0<a*c:=by
 have hb:b≠0:=fun e=>by rw[e]at h1;simp at h1
 rcases Int.lt_or_gt_of_ne hb with k|k
 ·have ha:a<0:=by
   rcases Int.lt_or_le a 0 with x|x
   ·exact x
   ·have:=Int.mul_nonpos_of_nonneg_of_nonpos x (Int.le_of_lt k);omega
  have hc:c<0:=by
   rcases Int.lt_or_le c 0 with x|x
   ·exact x
   ·have:=Int.mul_nonpos_of_nonpos_of_nonneg (Int.le_of_lt k) x;omega
  exact Int.mul_pos_of_neg_of_neg ha hc
 ·have ha:0<a:=by
   rcases Int.lt_or_le 0 a with x|x
   ·exact x
   ·have:=Int.mul_nonpos_of_nonpos_of_nonneg x (Int.le_of_lt k);omega
  have hc:0<c:=by
   rcases Int.lt_or_le 0 c with x|x
   ·exact x
   ·have:=Int.mul_nonpos_of_nonneg_of_nonpos (Int.le_of_lt k) x;omega
  exact Int.mul_pos ha hc
theorem Conf.trans{n:Nat}{u k v:Nat->Int}(h1:Conf n u k)(h2:Conf n k v):Conf n u v:=fun j hj hu=>by
 have a:=h1 j hj hu
 have hk:k j≠0:=fun e=>by rw[e]at a;simp at a
 exact zPI a (h2 j hj hk)
theorem Conf.sub{n:Nat}{u v:Nat->Int}(h:Conf n u v):SubV n u v:=fun j hj hu e=>by
 have:=h j hj hu
 rw[e]at this;simp at this
theorem sq_pos'{a:Int}(h:a≠0):0<a*a:=by
 rcases Int.lt_or_gt_of_ne h with k|k
 ·exact Int.mul_pos_of_neg_of_neg k k
 ·exact Int.mul_pos k k
theorem Conf.self(n:Nat)(v:Nat->Int):Conf n v v:=fun j _ h=>sq_pos' h
theorem supp_less{n:Nat}{k v:Nat->Int}{p:Nat}(h:SubV n k v)(hp:p<n)(hv:v p≠0)(hk:k p=0):(zBB n k).length<(zBB n v).length:=by
 have hn1:(zBB n k).Nodup:=(zDT n k).1.imp (fun h=>by omega)
 have hpm:(p:Int)∈zBB n v:=zBY.2 ⟨hp,hv⟩
 have hpn:(p:Int)∉zBB n k:=fun hm=>(zBY.1 hm).2 hk
 have:=zIT (l:=(p:Int)::zBB n k) (m:=zBB n v) (List.nodup_cons.2 ⟨hpn,hn1⟩) (fun x hx=>by
  rcases List.mem_cons.1 hx with rfl|hx
  ·exact hpm
  ·have hb:=(zDT n k).2 x hx
   obtain⟨j,rfl⟩:∃j:Nat,x=(j:Int):=⟨x.toNat,by omega⟩
   obtain⟨h1,h2⟩:=zBY.1 hx
   exact zBY.2 ⟨h1,h j h1 h2⟩)
 simp at this
 omega
theorem Space.step{n:Nat}{V:(Nat->Int)->Prop}(hV:Space n V){v h:Nat->Int}(hv:V v)(hh:V h)(hs:SubV n h v)(hpos:∃j,j<n∧0<v j*h j):
 ∃(A B:Int) (k:Nat->Int),0<A∧0<B∧V k∧(∀j,k j=A*v j-B*h j)∧Conf n k v∧(zBB n k).length<(zBB n v).length:=by
 obtain⟨A,B,p,hA,hB,hp,hvp,_,hz,hc⟩:=ratio_step hpos
 have hsub:SubV n (fun j=>A*v j-B*h j) v:=fun j hj hk e=>by
  have h0:h j=0:=Classical.byContradiction fun h1=>hs j hj h1 e
  apply hk;simp[e,h0]
 refine⟨A,B,fun j=>A*v j-B*h j,hA,hB,?_,fun _=>rfl,fun j hj hk=>?_,supp_less hsub hp hvp hz⟩
 ·refine hV.ext _ _ (hV.lin v h A (-B) hv hh) fun j _=>?_
  show A*v j+ -B*h j=A*v j-B*h j
  rw[Int.neg_mul];omega
 ·have h1:=hc j hj
  have h2:=hsub j hj hk
  rcases Int.lt_or_gt_of_ne (Int.mul_ne_zero hk h2)with c|c
  ·have c':(A*v j-B*h j)*v j<0:=c
   omega
  ·exact c
theorem Space.conf{n:Nat}{V:(Nat->Int)->Prop}(hV:Space n V):∀(s:Nat) (v:Nat->Int),(zBB n v).length=s->V v->NzV n v->∃u,ElemV n V u∧Conf n u v:=by
 intro s
 induction s using Nat.strongRecOn with
 |ind s ih=>
  intro v hs hv hz
  by_cases he:ElemV n V v
  ·exact⟨v,he,Conf.self n v⟩
  ·have hex:∃h,V h∧NzV n h∧SubV n h v∧∃j,j<n∧v j≠0∧h j=0:=by
    apply Classical.byContradiction
    intro hno
    apply he
    refine⟨hv,hz,fun h h1 h2 h3 j hj hvj hhj=>hno ⟨h,h1,h2,h3,j,hj,hvj,hhj⟩⟩
   obtain⟨h,h1,⟨i,hi,hhi⟩,h3,j0,hj0,hv0,hh0⟩:=hex
   have hpm:∃g,V g∧SubV n g v∧(∃j,j<n∧0<v j*g j)∧g j0=0:=by
    rcases Int.lt_or_gt_of_ne (Int.mul_ne_zero (h3 i hi hhi) hhi)with c|c
    ·refine⟨fun j=> -h j,hV.ext _ _ (hV.lin h h (-1) 0 h1 h1) (fun j _=>by show-1*h j+0*h j= -h j;omega),fun j hj hg=>h3 j hj (fun e=>hg (by show-h j=0;omega)),⟨i,hi,by show 0<v i* -h i;rw[Int.mul_neg];omega⟩,by show-h j0=0;omega⟩
    ·exact⟨h,h1,h3,⟨i,hi,c⟩,hh0⟩
   obtain⟨g,g1,g2,g3,g4⟩:=hpm
   obtain⟨A,B,k,hA,hB,hk,hke,hkc,hkl⟩:=hV.step hv g1 g2 g3
   obtain⟨u,hu1,hu2⟩:=ih _ (by omega) k rfl hk ⟨j0,hj0,by rw[hke,g4];simp;exact⟨by omega,hv0⟩⟩
   exact⟨u,hu1,hu2.trans hkc⟩
def gSum(P N:Nat->Int)(n:Nat)(v:Nat->Int):Int:=sm (fun j=>if 0<=v j then v j*P j else v j*N j) n
theorem gSum_congr{P N:Nat->Int}{n:Nat}{u v:Nat->Int}(h:∀j,j<n->u j=v j):gSum P N n u=gSum P N n v:=by
 unfold gSum
 exact zAL fun j hj=>by rw[h j hj]
theorem gSum_zero{P N:Nat->Int}{n:Nat}{v:Nat->Int}(h:¬NzV n v):gSum P N n v=0:=by
 have:∀j,j<n->v j=0:=fun j hj=>Classical.byContradiction fun e=>h ⟨j,hj,e⟩
 rw[gSum_congr (v:=fun _=>0) this]
 unfold gSum
 rw[zAL (g:=fun _=>(0:Int)) (fun j _=>by simp),zFH]
theorem gSum_add{P N:Nat->Int}{n:Nat}{v h k:Nat->Int}{A B:Int}(hA:0<A)(hB:0<B)(hk:∀j,k j=A*v j-B*h j)(c1:Conf n k v)(c2:Conf n h v):A*gSum P N n v=gSum P N n k+B*gSum P N n h:=by
 unfold gSum
 rw[<- zCZ,<- zCZ,<- zHP]
 refine zAL fun j hj=>?_
 have hs:∀{x:Int},(x≠0->0<x*v j)->(0<v j->0<=x)∧(v j<0->x<=0)∧(v j=0->x=0):=fun {x} hx=>by
  refine⟨fun p=>?_,fun p=>?_,fun p=>?_⟩
  ·rcases Int.lt_or_le x 0 with q|q
   ·have h1:=hx (by omega)
    have:=Int.mul_neg_of_neg_of_pos q p;omega
   ·exact q
  ·rcases Int.lt_or_le 0 x with q|q
   ·have h1:=hx (by omega)
    have:=Int.mul_neg_of_pos_of_neg q p;omega
   ·exact q
  ·apply Classical.byContradiction
   intro q
   have:=hx q
   rw[p]at this;simp at this
 obtain⟨a1,a2,a3⟩:=hs (c1 j hj)
 obtain⟨b1,b2,b3⟩:=hs (c2 j hj)
 have e:=hk j
 generalize k j=K at*
 generalize v j=v' at*
 generalize h j=h' at*
 rcases Int.lt_trichotomy v' 0 with q|q|q
 ·have x1:=a2 q
  have x2:=b2 q
  have f1:(if 0<=v' then v'*P j else v'*N j)=v'*N j:=by rw[if_neg (by omega)]
  have f2:(if 0<=K then K*P j else K*N j)=K*N j:=by
   by_cases z:K=0
   ·rw[z];simp
   ·rw[if_neg (by omega)]
  have f3:(if 0<=h' then h'*P j else h'*N j)=h'*N j:=by
   by_cases z:h'=0
   ·rw[z];simp
   ·rw[if_neg (by omega)]
  rw[f1,f2,f3,e];grind
 ·have x1:=a3 q
  have x2:=b3 q
  rw[q,x1,x2];simp
 ·have x1:=a1 q
  have x2:=b1 q
  rw[if_pos (by omega),if_pos x1,if_pos x2,e];grind
theorem Space.below{n:Nat}{V:(Nat->Int)->Prop}(hV:Space n V)(P N:Nat->Int):∀(s:Nat) (v:Nat->Int),(zBB n v).length=s->V v->gSum P N n v<0->∃u,ElemV n V u∧Conf n u v∧gSum P N n u<0:=by
 intro s
 induction s using Nat.strongRecOn with
 |ind s ih=>
  intro v hs hv hg
  have hz:NzV n v:=Classical.byContradiction fun h=>by rw[gSum_zero h]at hg;omega
  obtain⟨u,hu1,hu2⟩:=hV.conf _ v rfl hv hz
  rcases Int.lt_or_le (gSum P N n u) 0 with c|c
  ·exact⟨u,hu1,hu2,c⟩
  ·obtain⟨j,hj,hju⟩:=hu1.2.1
   obtain⟨A,B,k,hA,hB,hk,hke,hkc,hkl⟩:=hV.step hv hu1.1 hu2.sub ⟨j,hj,by rw[Int.mul_comm];exact hu2 j hj hju⟩
   have e:=gSum_add (P:=P) (N:=N) hA hB hke hkc hu2
   have h1:0<=B*gSum P N n u:=Int.mul_nonneg (by omega) c
   have h2:A*gSum P N n v<0:=Int.mul_neg_of_pos_of_neg hA hg
   obtain⟨w,w1,w2,w3⟩:=ih _ (by omega) k rfl hk (by omega)
   exact⟨w,w1,w2.trans hkc,w3⟩
end
section
def hiS(l:Nat->Int)(j:Nat):Int:=if l j=0 then 1 else sgnI (l j)
end
section
def sumP(v:Nat->Int)(x:List Rt):Nat->Int×Int
 |0=>(0,1)
 |k+1=>((sumP v x k).1*(zAB x k).2+(sumP v x k).2*((zAB x k).1*v k),(sumP v x k).2*(zAB x k).2)
theorem sumP_bnd{v:Nat->Int}{x:List Rt}(h1:∀k,(v k).natAbs<=1000000)(hx:ValB x):
 ∀k:Nat,(sumP v x k).1.natAbs<=k*10000000000000000*400 ^ k∧1<=(sumP v x k).2∧(sumP v x k).2.natAbs<=400 ^ k
 |0=>by simp[sumP]
 |k+1=>by
  obtain⟨i1,i2,i3⟩:=sumP_bnd h1 hx k
  obtain⟨x1,x2,x3,x4⟩:=hx k
  have hv:=h1 k
  have hp:400 ^ (k+1)=400 ^ k*400:=Nat.pow_succ ..
  have hmono:400 ^ k<=400 ^ (k+1):=by rw[hp];omega
  rw[sumP]
  simp only[]
  generalize sumP v x k=s at i1 i2 i3
  generalize zAB x k=q at x1 x2 x3 x4
  generalize v k=u at hv
  obtain⟨s1,s2⟩:=s
  obtain⟨q1,q2⟩:=q
  simp only[]at*
  obtain⟨p,hpp⟩:=exq (400 ^ k)
  have hP:400 ^ (k+1)=p*400:=by rw[hpp];exact hp
  rw[<- hpp]at i1 i3
  rw[hP]
  clear hp hmono hP hpp
  obtain⟨T,hT⟩:=exq (k*p)
  have i1':s1.natAbs<=T*10000000000000000:=by rw[hT,<- Nat.mul_right_comm];exact i1
  have g1:(k+1)*10000000000000000*(p*400)=(T*400+p*400)*10000000000000000:=by
   rw[Nat.mul_right_comm,Nat.add_mul k 1,Nat.one_mul,<- Nat.mul_assoc k p 400,<- hT]
  rw[g1]
  clear i1 g1
  have e1:(s1*q2).natAbs<=T*10000000000000000*400:=by
   rw[Int.natAbs_mul];exact Nat.mul_le_mul i1' (by omega)
  have e2:(s2*(q1*u)).natAbs<=p*10000000000000000:=by
   rw[Int.natAbs_mul]
   refine Nat.mul_le_mul i3 ?_
   rw[Int.natAbs_mul]
   exact Nat.le_trans (Nat.mul_le_mul (show q1.natAbs<=10000000000 by omega) hv) (by decide)
  have e3:(s1*q2+s2*(q1*u)).natAbs<=(s1*q2).natAbs+(s2*(q1*u)).natAbs:=Int.natAbs_add_le _ _
  refine⟨by omega,?_,?_⟩
  ·have:=Int.mul_pos (show 0<s2 by omega) (show 0<q2 by omega);omega
  ·rw[Int.natAbs_mul];exact Nat.mul_le_mul i3 (by omega)
theorem sumP_bnd6{v:Nat->Int}{x:List Rt}(h1:∀k,(v k).natAbs<=1000000)(hx:ValB x){k:Nat}(h6:k<=6):
 (sumP v x k).1.natAbs<=245760000000000000000000000000000∧1<=(sumP v x k).2∧(sumP v x k).2.natAbs<=4096000000000000:=by
 obtain⟨i1,i2,i3⟩:=sumP_bnd h1 hx k
 have hp:400 ^ k<=400 ^ 6:=Nat.pow_le_pow_right (by omega) h6
 have e:(400:Nat) ^ 6=4096000000000000:=by decide
 rw[e]at hp
 refine⟨?_,i2,Nat.le_trans i3 hp⟩
 have:k*10000000000000000*400 ^ k<=6*10000000000000000*4096000000000000:=Nat.mul_le_mul (Nat.mul_le_mul_right _ h6) hp
 omega
def colP(M:Mask)(q:Nat)(i:Nat):Int:=vec (M[i]?.getD []) q
def zKX(M:Mask)(x:List Rt)(q:Nat):Bool:=decide ((sumP (colP M q) x M.length).1<=(sumP (colP M q) x M.length).2∧ -(sumP (colP M q) x M.length).2<=(sumP (colP M q) x M.length).1)
def zNM(M:Mask)(x:List Rt):Bool:=(List.range (zAC M)).all fun q=>zKX M x q
theorem seesB_iff{M:Mask}{x:List Rt}:zNM M x=true↔∀q,q<zAC M->zKX M x q=true:=by
 unfold zNM;rw[List.all_eq_true];simp
end
section
theorem eq_floor{n d m e:Int}(hd:0<d)(he:0<e)(h:n*e=m*d):n/d=m/e:=by
 have h1:n/d=(n*e)/(d*e):=(Int.mul_ediv_mul_of_pos_left n d he).symm
 have h2:m/e=(m*d)/(e*d):=(Int.mul_ediv_mul_of_pos_left m e hd).symm
 rw[h1,h2,h,Int.mul_comm d e]
theorem eq_rest{n d m e:Int}(h:n/d=m/e):n*e=m*d↔d*(m%e)=e*(n%d):=by
 have h1:=Int.emod_add_mul_ediv n d
 have h2:=Int.emod_add_mul_ediv m e
 obtain⟨q,hq⟩:=exq (n/d)
 obtain⟨a,ha⟩:=exq (n%d)
 obtain⟨b,hb⟩:=exq (m%e)
 rw[<- h,<- hq,<- hb]at h2
 rw[<- hq,<- ha]at h1
 rw[<- ha,<- hb,<- h1,<- h2]
 constructor<;>intro h<;>grind
structure EqS (A:Prop) (n d m e:Int):Prop where
 n0:0<=n
 d0:0<=d
 m0:0<=m
 e0:0<=e
 nd:d=0->0<n
 me:e=0->0<m
 iff:A↔n*e=m*d
theorem EqS.step{A:Prop}{n d m e:Int}(h:EqS A n d m e)(hd:0<d)(he:0<e)(hq:n/d=m/e):EqS A d (n%d) e (m%e):=by
 have h1:=Int.emod_nonneg n (show d≠0 by omega)
 have h2:=Int.emod_nonneg m (show e≠0 by omega)
 exact⟨by omega,h1,by omega,h2,fun _=>hd,fun _=>he,h.iff.trans (eq_rest hq)⟩
theorem EqS.part{A:Prop}{n d m e:Int}(h:EqS A n d m e)(hd:0<d)(he:0<e)(hq:n/d≠m/e):¬A:=fun ha=>hq (eq_floor hd he (h.iff.1 ha))
theorem EqS.done{A:Prop}{n d m e:Int}(h:EqS A n d m e)(hz:d=0∨e=0):A↔d=e:=by
 rw[h.iff]
 rcases hz with rfl|rfl
 ·have:=h.nd rfl
  constructor
  ·intro hh
   have hh2:n*e=0:=by rw[hh];simp
   rcases Int.mul_eq_zero.1 hh2 with h3|h3
   ·omega
   ·exact h3.symm
  ·rintro rfl;simp
 ·have:=h.me rfl
  constructor
  ·intro hh
   have hh2:m*d=0:=by rw[<- hh];simp
   rcases Int.mul_eq_zero.1 hh2 with h3|h3
   ·omega
   ·exact h3
  ·rintro rfl;simp
end
end Go.Proofs.YtlffndehhhpgjaaGreat
