/- Walks and plain laws for DualNormsRow, part 11. -/
import Derived.Laws.CopyOwn
import Derived.ChangeOld
import Derived.Deep.Slices
import Derived.Lib.SmallJoins
import Derived.Test.YtlffndehhhpgjaaGreatChecked
import Derived.Test.YtlffndehhhpgjaaGreatRows
import Derived.JoinedOf
import Derived.ProofKit
import Derived.Test.YtlffndehhhpgjaaGreatPkDualNormsRow10
namespace Go.Proofs.YtlffndehhhpgjaaGreat
set_option linter.unusedVariables false
set_option linter.unusedSimpArgs false
set_option maxRecDepth 100000
set_option maxHeartbeats 4000000
section
open Go.RowKit
theorem exact_c(w:World)(N D:Int)(hN: -4611686018427387904<=N∧N<=4611686018427387904)(hD:0<=D∧D<=4611686018427387904):
 Calls Tryz.prog 22 #[.agg #[.int .i64 N,.int .i64 D]] w fun e w'=>∃x,e=.returned x∧RatQ w' x 3 (decide (N<0)) (N.natAbs:Nat) D∧Below w.heap.size w w':=by
 obtain⟨s0,hs⟩:=exq (w.heap.size)
 obtain⟨wa,hwa⟩:=exq ((w.alloc (.cells #[.int .i64 N,.int .i64 D] 29)).alloc (.cells #[.bool false,.slice none 0 0,.slice none 0 0] 37))
 have hba:Below w.heap.size w wa:=by rw[hwa];exact((Below.refl _ _).alloc (Nat.le_refl _) _).alloc (by simp) _
 have q0:wa.heap[s0+1]? =some (.cells #[.bool false,.slice none 0 0,.slice none 0 0] 37 (0,0)):=by
  have:=World.alloc_heap_new (w.alloc (.cells #[.int .i64 N,.int .i64 D] 29)) (.cells #[.bool false,.slice none 0 0,.slice none 0 0] 37)
  rw[hwa,hs]
  simpa using this
 have hs1:s0+1<wa.heap.size:=(Array.getElem?_eq_some_iff.1 q0).1
 have hc:∀o v,(#[Value.int .i64 N,.int .i64 D]:Array Value)[o]? =some v->wa.cell? ⟨s0,o,none⟩=some v:=fun o v h=>by
  rw[hwa,hs,World.cell?_alloc_past _ _ _ (by simp),World.cell?_alloc_at _ _ _ _ rfl];exact h
 have HS:=hid (fun(Y:World) (hY:Below wa.heap.size wa Y)=>show Y.cell? ⟨s0,0,none⟩=some (.int .i64 N)∧Y.cell? ⟨s0,1,none⟩=some (.int .i64 D)from by
  have k0:∀o,Y.cell? ⟨s0,o,none⟩=wa.cell? ⟨s0,o,none⟩:=fun o=>hY.cell (p:=⟨s0,o,none⟩) (by show s0<_;omega)
  exact⟨(k0 0).trans (hc 0 _ rfl),(k0 1).trans (hc 1 _ rfl)⟩)
 have HR:=hid (fun(Y:World) (hY:Below wa.heap.size wa Y)=>show Y.cell? ⟨s0+1,0,none⟩=some (.bool false)∧Y.cell? ⟨s0+1,1,none⟩=some (.slice none 0 0)∧Y.cell? ⟨s0+1,2,none⟩=some (.slice none 0 0)∧(∀o,Y.frozen? ⟨s0+1,o,none⟩=false)∧s0+1<Y.heap.size from by
  have h1:=(hY.block (s0+1) hs1).trans q0
  exact⟨by simp[World.cell?,h1],by simp[World.cell?,h1],by simp[World.cell?,h1],fun o=>by simp[World.frozen?,h1],(Array.getElem?_eq_some_iff.1 h1).1⟩)
 have HFIN:=hid (fun(Y:World) (hY:Below wa.heap.size wa Y) (x y z:Value)=>show Below w.heap.size w (((Y.setCell ⟨s0+1,0,none⟩ x).setCell ⟨s0+1,1,none⟩ y).setCell ⟨s0+1,2,none⟩ z)from
  zAE (zAE (zAE (zAA hba hY) (by omega) 0 x) (by omega) 1 y) (by omega) 2 z)
 have HNG:=hid (fun(Y:World) (hY:Below wa.heap.size wa Y)=>show ∃c,Y.heap[s0+1]? =some (.cells c 37 (0,0))∧∀x:Int,∀o:Nat,c[o]? ≠some (.int .i64 x)from
  ⟨_,(hY.block (s0+1) hs1).trans q0,fun x o=>by match o with|0=>simp|1=>simp|2=>simp|o+3=>simp⟩)
 obtain⟨b,hb⟩:=exq (decide (N<0))
 obtain⟨m,hm⟩:∃m:Int,m=(N.natAbs:Nat):=⟨_,rfl⟩
 rw[<- hb,<- hm]
 have hb2:=hb.symm
 have HM1:=hid (fun X=>zGO X m (by omega) (by omega))
 have HM2:=hid (fun X=>zGO X D hD.1 (by omega))
 have hng:IntKind.i64.wrap (-N)= -N:=IntWalk.i64_in _ (by omega)
 have hmx:(if-N<=N then N else-N)=m:=by split<;>omega
 have hmx2:(if N<= -N then-N else N)=m:=by split<;>omega
 have hmx3:(if N< -N then-N else N)=m:=by split<;>omega
 clear hba q0 hs1 hc hb hm
 go_enter Tryz.func22,Tryz.ntmps22
 go_wp2_with fail
 rw[<- hs,<- hwa]
 clear hs hwa
 refine zAG (fun j' X=>decide (j'<=13)=true->X.cell? ⟨s0,0,none⟩=some (.int .i64 N)∧X.cell? ⟨s0,1,none⟩=some (.int .i64 D)) (by kernel_rfl) ?_
 have hbd:Below wa.heap.size wa wa.drew:=(Below.refl _ _).drew
 generalize wa.drew=wd at hbd⊢
 refine AnyT.tD (i:=0) (v:=.pointer (some ⟨s0,0,none⟩)) rfl rfl (by rintro w' ⟨y1,y2⟩;go_simp) (HS.out _ hbd) ?_;go_frame
 refine AnyT.tD (i:=1) (v:=.int .i64 N) rfl rfl (by rintro w' ⟨y1,y2⟩;go_simp) (HS.out _ hbd) ?_;go_frame
 refine AnyT.tD (i:=2) (v:=.bool b) rfl rfl (by rintro w' ⟨y1,y2⟩;go_simp) (HS.out _ hbd) ?_;go_frame
 refine AnyT.tD (i:=3) (v:=.pointer (some ⟨s0,0,none⟩)) rfl rfl (by rintro w' ⟨y1,y2⟩;go_simp) (HS.out _ hbd) ?_;go_frame
 refine AnyT.tD (i:=4) (v:=.int .i64 N) rfl rfl (by rintro w' ⟨y1,y2⟩;go_simp) (HS.out _ hbd) ?_;go_frame
 refine AnyT.tD (i:=5) (v:=.pointer (some ⟨s0,0,none⟩)) rfl rfl (by rintro w' ⟨y1,y2⟩;go_simp) (HS.out _ hbd) ?_;go_frame
 refine AnyT.tD (i:=6) (v:=.int .i64 N) rfl rfl (by rintro w' ⟨y1,y2⟩;go_simp) (HS.out _ hbd) ?_;go_frame
 refine AnyT.tD (i:=7) (v:=.int .i64 (-N)) rfl rfl (by rintro w' ⟨y1,y2⟩;go_simp) (HS.out _ hbd) ?_;go_frame
 refine AnyT.tD (i:=10) (v:=.pointer (some ⟨s0,1,none⟩)) rfl rfl (by rintro w' ⟨y1,y2⟩;go_simp) (HS.out _ hbd) ?_;go_frame
 refine AnyT.tD (i:=11) (v:=.int .i64 D) rfl rfl (by rintro w' ⟨y1,y2⟩;go_simp) (HS.out _ hbd) ?_;go_frame
 refine AnyT.nx (i:=8) rfl ?_
 go_wp2
 refine⟨fun _=>HS.out _ hbd,?_⟩
 refine AnyT.nx (i:=9) rfl ?_
 go_wp2_with (go_at_call 74;refine(HM1.out _).mono ?_;rintro e w1 ⟨v1,rfl,hv1,hb1⟩;refine Stop.of ?_)
 refine Stop.go ?_
 obtain⟨a1,n1,c1,rfl⟩:=hv1.slice
 have HV1:=hid hv1
 have HB1:=hid (zAA hbd hb1)
 clear hv1 hb1 hmx hmx2 hmx3 hng
 go_wp2
 refine⟨fun _=>HS.out _ HB1.out,?_⟩
 refine AnyT.nx (i:=12) rfl ?_
 go_wp2_with (go_at_call 74;refine(HM2.out _).mono ?_;rintro e w2 ⟨v2,rfl,hv2,hb2'⟩;refine Stop.of ?_)
 refine Stop.go ?_
 obtain⟨a2,n2,c2,rfl⟩:=hv2.slice
 have HB2:=hid (zAA HB1.out hb2')
 have hv1':=HV1.out.below hb2'
 have HK1:=hid (hv1'.keeps3 (g:=s0+1) (u:=.bool b) (v:=.slice a1 n1 c1) (z:=.slice a2 n2 c2) (HNG.out _ HB2.out))
 have HK2:=hid (hv2.keeps3 (g:=s0+1) (u:=.bool b) (v:=.slice a1 n1 c1) (z:=.slice a2 n2 c2) (HNG.out _ HB2.out))
 obtain⟨x0,x1,x2,hfz,hlt⟩:=HR.out _ HB2.out
 have f0:=hfz 0
 have f1:=hfz 1
 have f2:=hfz 2
 have HFI:=hid (HFIN.out _ HB2.out (.bool b) (.slice a1 n1 c1) (.slice a2 n2 c2))
 clear hv1' hv2 hb2' hfz HV1
 go_wp2
 refine⟨fun _=>HS.out _ HB2.out,?_⟩
 refine AnyT.tD (i:=13) (v:=.agg #[.bool b,.slice a1 n1 c1,.slice a2 n2 c2]) rfl rfl (by rintro w' ⟨y1,y2⟩;go_simp) (HS.out _ HB2.out) ?_;go_frame
 refine AnyT.nx (i:=14) rfl ?_
 go_wp2
 refine⟨fun h=>absurd h (by decide),?_⟩
 refine AnyT.done (by kernel_rfl) ?_ _
 go_wp2
 refine bodyPost_ret (v:=.agg #[.bool b,.slice a1 n1 c1,.slice a2 n2 c2]) ?_ rfl ⟨_,rfl,⟨_,_,_,_,_,_,rfl,HK1.out,HK2.out⟩,HFI.out⟩
 simp[results,Tryz.results22,go_sem,x0,x1,x2,f0,f1,f2,hlt]
theorem nwhole_c(w:World)(n:Int)(hN: -4611686018427387904<=n∧n<=4611686018427387904):
 Calls Tryz.prog 91 #[.int .i64 n] w fun e w'=>∃x,e=.returned x∧RatQ w' x 3 (decide (n<0)) (n.natAbs:Nat) 1∧Below w.heap.size w w':=by
 obtain⟨s0,hs⟩:=exq (w.heap.size)
 obtain⟨wa,hwa⟩:=exq (w.alloc (.cells #[.bool false,.slice none 0 0,.slice none 0 0] 37))
 have hba:Below w.heap.size w wa:=by rw[hwa];exact(Below.refl _ _).alloc (Nat.le_refl _) _
 have q0:wa.heap[s0]? =some (.cells #[.bool false,.slice none 0 0,.slice none 0 0] 37 (0,0)):=by
  rw[hwa,hs];exact World.alloc_heap_new w _
 have hs1:s0<wa.heap.size:=(Array.getElem?_eq_some_iff.1 q0).1
 have HR:=hid (fun(Y:World) (hY:Below wa.heap.size wa Y)=>show Y.cell? ⟨s0,0,none⟩=some (.bool false)∧Y.cell? ⟨s0,1,none⟩=some (.slice none 0 0)∧Y.cell? ⟨s0,2,none⟩=some (.slice none 0 0)∧(∀o,Y.frozen? ⟨s0,o,none⟩=false)∧s0<Y.heap.size from by
  have h1:=(hY.block s0 hs1).trans q0
  exact⟨by simp[World.cell?,h1],by simp[World.cell?,h1],by simp[World.cell?,h1],fun o=>by simp[World.frozen?,h1],(Array.getElem?_eq_some_iff.1 h1).1⟩)
 have HFIN:=hid (fun(Y:World) (hY:Below wa.heap.size wa Y) (x y z:Value)=>show Below w.heap.size w (((Y.setCell ⟨s0,0,none⟩ x).setCell ⟨s0,1,none⟩ y).setCell ⟨s0,2,none⟩ z)from
  zAE (zAE (zAE (zAA hba hY) (by omega) 0 x) (by omega) 1 y) (by omega) 2 z)
 have HNG:=hid (fun(Y:World) (hY:Below wa.heap.size wa Y)=>show ∃c,Y.heap[s0]? =some (.cells c 37 (0,0))∧∀x:Int,∀o:Nat,c[o]? ≠some (.int .i64 x)from
  ⟨_,(hY.block s0 hs1).trans q0,fun x o=>by match o with|0=>simp|1=>simp|2=>simp|o+3=>simp⟩)
 have HE:=hid (exact_c wa n 1 hN (by decide))
 obtain⟨b,hb⟩:=exq (decide (n<0))
 obtain⟨m,hm⟩:∃m:Int,m=(n.natAbs:Nat):=⟨_,rfl⟩
 rw[<- hb,<- hm]at HE⊢
 clear hba q0 hs1 hb hm
 go_enter Tryz.func91,Tryz.ntmps91
 go_wp2_with fail
 rw[<- hs,<- hwa]
 clear hs hwa
 go_wp2_with (go_at_call 22;refine HE.out.mono ?_;rintro e w2 ⟨v2,rfl,⟨a1,n1,c1,a2,n2,c2,rfl,hv1,hv2⟩,hb2⟩;refine Stop.of ?_)
 refine Stop.go ?_
 have HK1:=hid (hv1.keeps3 (g:=s0) (u:=.bool b) (v:=.slice a1 n1 c1) (z:=.slice a2 n2 c2) (HNG.out _ hb2))
 have HK2:=hid (hv2.keeps3 (g:=s0) (u:=.bool b) (v:=.slice a1 n1 c1) (z:=.slice a2 n2 c2) (HNG.out _ hb2))
 obtain⟨x0,x1,x2,hfz,hlt⟩:=HR.out _ hb2
 have f0:=hfz 0
 have f1:=hfz 1
 have f2:=hfz 2
 have HFI:=hid (HFIN.out _ hb2 (.bool b) (.slice a1 n1 c1) (.slice a2 n2 c2))
 clear hv1 hv2 hb2 hfz
 go_wp2
 refine bodyPost_ret (v:=.agg #[.bool b,.slice a1 n1 c1,.slice a2 n2 c2]) ?_ rfl ⟨_,rfl,⟨_,_,_,_,_,_,rfl,HK1.out,HK2.out⟩,HFI.out⟩
 simp[results,Tryz.results91,go_sem,x0,x1,x2,f0,f1,f2,hlt]
end
section
open Go.RowKit
theorem NatV.tight{w:World}{v:Value}{L:Nat}{N:Int}(h:NatV w v L N){m:List Int}(hm:DigL m)(hle:N<=valN m):NatV w v m.length N:=by
 obtain⟨a,n,cap,l,h1,h2,h3,h4,h5,h6,h7⟩:=h
 exact⟨a,n,cap,l,h1,h2,by rw[<- h2];exact trim_le h5 hm h6 (by omega),h4,h5,h6,h7⟩
theorem NatV.other{w:World}{n c:Nat}{L:Nat}{N:Int}{a:Option Addr}(h:NatV w (.slice a n c) L N){g:Nat}(hg:∀b o f,a=some ⟨b,o,f⟩->b≠g)(j:Nat)(x:Value):NatV (w.setCell ⟨g,j,none⟩ x) (.slice a n c) L N:=by
 obtain⟨a',n',c',l,h1,h2,h3,h4,h5,h6,h7⟩:=h
 cases h1
 refine⟨a,n,c,l,rfl,h2,h3,fun i hi=>?_,h5,h6,h7⟩
 obtain⟨b,o,e,hb,hc⟩:=h4 i hi
 have hk:=Keep.set w g j x
 have hne:=hg b o none e
 exact⟨b,o,e,by have:=hk.size;omega,(World.cell?_of_block (w:=w) (a:=⟨b,o+i,none⟩) (hk.block b hb hne)).trans hc⟩
theorem zHU{V U:Int}:cmpI V U<=0↔V<=U:=by unfold cmpI;split<;>(try split)<;>omega
theorem div_sum{p v A:Int}:1000000000*p*v+p*(A-0)=p*(A+1000000000*v):=by grind
theorem div_step{x q r M:Int}(hM:0<M)(h0:0<=r)(h1:r<M)(hx0:0<=x)(hx1:x<1000000000){A:Int}(hA:M*A<=x+1000000000*r)(hB:x+1000000000*r<M*(A+1)):
 (x+1000000000*(r+M*q))/M=A+1000000000*q∧(x+1000000000*(r+M*q))%M=x+1000000000*r-M*A:=by
 have e:x+1000000000*(r+M*q)=(x+1000000000*r-M*A)+M*(A+1000000000*q):=by grind
 have h:=(Int.ediv_emod_unique (a:=x+1000000000*(r+M*q)) (b:=M) (r:=x+1000000000*r-M*A) (q:=A+1000000000*q) hM).2 ⟨e.symm,by omega,by rw[Int.mul_add]at hB;omega⟩
 exact h
theorem trimmed_s(w:World)(a:Option Addr)(n cap:Nat)(l:List Int)(hn:l.length=n)(hm:n<=1000)(hc:n<=cap)(H:zAJ w a l)(hd:DigL l):
 Calls Tryz.prog 141 #[.slice a n cap] w fun e w'=>∃k,e=.returned (.slice a k cap)∧NatV w' (.slice a k cap) n (valN l)∧Below w.heap.size w w':=by
 have HN:=hid hn
 have HH:=hid H
 have HD:=hid hd
 clear hn H hd
 go_enter Tryz.func141,Tryz.ntmps141
 go_wp2
 go_loopw [0] (fun v wr=>∃k:Nat,k<=n∧v=.slice a k cap∧wr=w∧Hid (valN (l.take k)=valN l)) (fun v _=>lenOf v)
 case atStart=>exact⟨n,Nat.le_refl _,rfl,rfl,hid (zCQ (by rw[HN.out];exact Nat.le_refl _))⟩
 case round=>
  obtain⟨k,hk,rfl,rfl,HV⟩:=hrel
  have hfin:zDF (l.take k)->NatV wr (.slice a k cap) n (valN l):=fun ht=>by
   refine⟨a,k,cap,l.take k,rfl,by rw[List.length_take,HN.out];omega,hk,fun j hj=>?_,HD.out.take k,ht,HV.out⟩
   rw[List.length_take]at hj
   obtain⟨b,o,e,hb,hc⟩:=HH.out j (by omega)
   refine⟨b,o,e,hb,?_⟩
   rw[hc,List.getElem?_take_of_lt (by omega)]
  have HF:=hid hfin
  clear hfin
  rcases Nat.eq_zero_or_pos k with hk0|hk0
  ·subst hk0
   have hF:=HF.out (by rw[List.take_zero];exact zDF.nil)
   have HFF:=hid hF
   clear hF HF
   go_wp2
   go_ret
   exact⟨_,rfl,HFF.out,Below.refl _ _⟩
  ·obtain⟨j,rfl⟩:∃j,k=j+1:=⟨k-1,by omega⟩
   obtain⟨b,o,rfl,hb,hcj⟩:=HH.out j (by rw[HN.out];omega)
   have hv:l[j]?.getD 0=digF l j:=rfl
   rw[hv]at hcj
   have htv:=zCF l j
   have HX:=hid (fun(h:digF l j=0)=>show valN (l.take j)=valN l from by rw[<- HV.out,htv,h];simp)
   have HY:=hid (fun(h:digF l j≠0)=>HF.out (by
    have hjl:j<l.length:=by rw[HN.out];omega
    rw[List.take_succ_eq_append_getElem hjl]
    unfold zDF
    simp only[List.getLast?_append,List.getLast?_singleton]
    intro e
    refine h ?_
    unfold digF
    rw[List.getElem?_eq_getElem hjl]
    simpa using e))
   obtain⟨d,hdd⟩:=exq (digF l j)
   rw[<- hdd]at hcj HX HY
   have i1:((j+1:Nat):Int)-1=(j:Int):=by omega
   have i2:(j:Int)<((j+1:Nat):Int):=by omega
   have i3:(0:Int)<((j+1:Nat):Int):=by omega
   have i4:IntKind.i64.wrap (((j+1:Nat):Int)-1)=(j:Int):=by rw[i1];exact IntWalk.i64_in _ (by omega)
   have i5:(j:Int)<=(cap:Int):=by omega
   obtain⟨J,hJ⟩:=exq (j+1)
   rw[<- hJ]at i1 i2 i3 i4 hk HY HF⊢
   by_cases h0:d=0
   ·have hz:=HX.out h0
    have HZ:=hid hz
    have hjn:j<=n:=by omega
    have hJJ:j<J:=by omega
    subst h0
    clear hz HX HY HF hv htv hdd HV hJ
    go_wp2
    exact⟨⟨j,hjn,rfl,by first|trivial|rfl,HZ⟩,by simp[lenOf];omega⟩
   ·have hF:=HY.out h0
    have HFF:=hid hF
    have hdb:(d==0)=false:=by simp[h0]
    clear hF HX HY HF hv htv hdd HV hJ
    go_wp2
    go_ret
    exact⟨_,rfl,HFF.out,Below.refl _ _⟩
end
section
open Go.RowKit
theorem ndivided_c(w:World)(v u:Value)(L K:Nat)(N M:Int)(h:NatV w v L N)(k:NatV w u K M)(hL:L<=300)(hK:K<=300)(hM:0<M):
 Calls Tryz.prog 159 #[v,u] w fun e w'=>∃x y,e=.returned (.tuple #[x,y])∧NatV w' x L (N/M)∧NatV w' y K (N%M)∧Below w.heap.size w w':=by
 have HU:=hid k
 obtain⟨a,n,cap,l,rfl,hn,hnL,H,hd,ht,rfl⟩:=h
 obtain⟨a2,n2,cap2,m,rfl,hn2,hnK,H2,hd2,ht2,hm⟩:=k
 have HH:=hid (fun(X:World) (hX:Below w.heap.size w X)=>H.below hX)
 have HN:=hid hn
 have HDX:=hid (fun(i:Nat)=>zCH hd i)
 have HTI:=hid (fun(W:World) (v:Value) (L:Nat) (R:Int) (h:NatV W v L R) (hr:R<M)=>show NatV W v K R from(h.tight hd2 (by omega)).le (by omega))
 have HDR:=hid (fun(s:Nat) (hs:s<n)=>show valN (l.drop s)=digF l s+1000000000*valN (l.drop (s+1))from by
  rw[List.drop_eq_getElem_cons (by omega),valN]
  unfold digF;rw[List.getElem?_eq_getElem (by omega)];rfl)
 have HDN:=hid (fun(s:Nat)=>show 0<=valN (l.drop s)from(DigL.bnd fun x hx=>hd x (List.mem_of_mem_drop hx)).1)
 have HD0:=hid (show valN (l.drop 0)=valN l from by rw[List.drop_zero])
 have HDE:=hid (show valN (l.drop n)=0 from by rw[List.drop_of_length_le (by omega)];rfl)
 obtain⟨Q,hQ⟩:=exq (valN l/M)
 obtain⟨E,hE⟩:=exq (valN l%M)
 rw[<- hQ,<- hE]
 have HQ:=hid hQ
 have HE:=hid hE
 have HM:=hid hM
 have hmk:∀w,(Instr.makeSlice 35 (.int .i64 (n:Int)) (.int .i64 (n:Int))).run Tryz.prog w=.ok (.slice (some ⟨w.heap.size,0,none⟩) n n) (w.alloc (.cells (madeCells #[.int .i64 0] n) 3)):=
  fun w=>run_make_row' 35 3 (.int .i64 0) 8 Tryz.underlying35 zIO rfl .i64 .i64 n (by omega) (by omega) w
 obtain⟨g,hg⟩:=exq (w.heap.size)
 obtain⟨wa,hwa⟩:=exq (w.alloc (.cells (madeCells #[.int .i64 0] n) 3))
 have hba:Below w.heap.size w wa:=by rw[hwa];exact(Below.refl _ _).alloc (Nat.le_refl _) _
 have hsp:zBE wa g (List.replicate n 0):=by rw[hwa,hg];exact sp_madeN w n
 have HSP:=hid hsp
 have HBA:=hid hba
 have HG:=hid (show w.heap.size<=g by omega)
 have HNV0:=hid (show NatV wa (.slice none 0 0) K 0 from⟨none,0,0,[],rfl,rfl,by omega,fun j hj=>by simp at hj,DigL.nil,zDF.nil,rfl⟩)
 have hw1:IntKind.i64.wrap ((n:Int)-1)=(n:Int)-1:=IntWalk.i64_in _ (by omega)
 clear H H2 hd hd2 ht ht2 hn hn2 hQ hE hM hm hsp hba
 go_enter Tryz.func159,Tryz.ntmps159
 go_wp2_with fail
 rw[<- hg,<- hwa]
 clear hg hwa hmk hw1
 go_loopw [7,8] (fun lv i wr=>∃(t:Nat) (o:List Int) (R:Int),t<=n∧i=.int .i64 ((t:Int)-1)∧zBE wr g o∧Below w.heap.size w wr∧NatV wr lv K R∧
  Hid (o.length=n∧DigL o∧valN o=pw t*(valN (l.drop t)/M)∧R=valN (l.drop t)%M∧∀q,q<t->digF o q=0)) (fun _ i _=>(intOf i+1).toNat)
 case atStart=>exact⟨n,_,0,Nat.le_refl _,rfl,HSP.out,HBA.out,HNV0.out,hid ⟨by simp,fun d h=>by rw[(List.mem_replicate.1 h).2];decide,by rw[valN_rep,HDE.out];simp,by rw[HDE.out];simp,fun q _=>digF_rep _ _⟩⟩
 case round=>
  obtain⟨t,o,R,htn,rfl,hsp,hbk,hnv,HI⟩:=hrel
  cases t with
  |zero=>
   obtain⟨j1,j2,j3,j4,j5⟩:=HI.out
   rw[HD0.out,<- HQ.out,pw,Int.one_mul]at j3
   rw[HD0.out,<- HE.out]at j4
   subst j4
   have HT:=hid (trimmed_s wr (some ⟨g,0,none⟩) n n o j1 (by omega) (Nat.le_refl _) hsp.ints j2)
   rw[j3]at HT
   obtain⟨la,ln,lc,hlv⟩:∃la ln lc,u7=Value.slice la ln lc:=by obtain⟨a,n,c,_,h,_⟩:=hnv;exact⟨a,n,c,h⟩
   subst hlv
   have HNV:=hid hnv
   have HBK:=hid hbk
   have hm1:((0:Nat):Int)-1= -1:=by decide
   rw[hm1]
   clear HI j1 j2 j3 j5 hsp hbk hnv hm1
   go_wp2_with (go_at_call 141;refine HT.out.mono ?_;rintro e w2 ⟨k2,rfl,hv2,hb2⟩;refine Stop.of ?_)
   refine Stop.go ?_
   have HF:=hid (hv2.le hnL)
   have HR2:=hid (HNV.out.below hb2)
   have HB2:=hid (zAA HBK.out hb2)
   clear hv2 hb2
   go_wp2
   go_ret2
   exact⟨_,_,rfl,HF.out,HR2.out,HB2.out⟩
  |succ s=>
   have hsn:s<n:=by omega
   have hj0:(((s+1:Nat):Int)-1)=(s:Int):=by omega
   rw[hj0]
   obtain⟨b,oo,rfl,hb,hc⟩:=(HH.out wr hbk) s (by rw[HN.out];exact hsn)
   have hv:l[s]?.getD 0=digF l s:=rfl
   rw[hv]at hc
   have HX:=hid (HDX.out s)
   have HDS:=hid (HDR.out s hsn)
   obtain⟨x,hx⟩:=exq (digF l s)
   rw[<- hx]at hc HX HDS
   have i0:(0:Int)<=(s:Int):=by omega
   have i1:(s:Int)<(n:Int):=by omega
   have hs9:s<=300:=by omega
   -- the rest so far
   have hRb:0<=R∧R<M:=by
    have h:=HI.out.2.2.2.1
    have hm:=HM.out
    rw[h];exact⟨Int.emod_nonneg _ (by omega),Int.emod_lt_of_pos _ hm⟩
   obtain⟨la,ln,lc,ll,rfl,e1,e2,e3,e4,e5,e6⟩:=hnv
   have HLI:=hid (fun(Z:World) (hZ:Below wr.heap.size wr Z)=>e3.below hZ)
   have hlit:=World.ownsRow_lit (base:=wr.heap.size) (e:=3) (size:=1) wr #[.int .i64 x] 1 (Nat.le_refl _) (by decide) rfl
   have HLIT:=hid hlit
   have HSPK:=hid (fun(Z:World) (hZ:Below wr.heap.size wr Z)=>hsp.keep (hZ.block g hsp.lt))
   have HGW:=hid hsp.lt
   have HBK:=hid hbk
   have HRB:=hid hRb
   have HDL:=hid (show DigL ([x]++ll)from fun d hd=>by
    rcases List.mem_append.1 hd with h|h
    ·simp at h;subst h;exact HX.out
    ·exact e4 d h)
   have HVL:=hid (show valN ([x]++ll)=x+1000000000*R from by show x+1000000000*valN ll=_;rw[e6])
   have hln:ln<=300:=by omega
   have L1:=hid (show(ll.map (Value.int .i64)).length=ln*1 by rw[List.length_map];omega)
   have L2:=hid (show la=none->ln=0 from fun e=>by
    rcases Nat.eq_zero_or_pos ln with h|h
    ·exact h
    ·obtain⟨b',o',e',_⟩:=e3 0 (by omega)
     rw[e]at e';cases e')
   have HLL:=hid (show([x]++ll).length=1+ln by simp;omega)
   have HNEW:=hid (zIS (HLI.out (wr.alloc (.cells #[.int .i64 x] 3)) ((Below.refl _ _).alloc (Nat.le_refl _) _)))
   have M1:=hid (show 1+ln<=maxLen by unfold maxLen;omega)
   have M2:=hid (show(1+ln)*8<=140737488355328 by omega)
   have M3:=hid (zCG wr (.cells #[.int .i64 x] 3))
   have HMP:=hid (show [Value.int .i64 x]++ll.map (Value.int .i64)=([x]++ll).map (Value.int .i64)from by simp)
   clear hv hx hb e1 e2 e3 e4 e5 e6 hlit hsp hbk hRb hj0
   go_wp2_with (at_builtin;refine zBD _ rfl (.tmp 26) (.tmp 27) 35 rfl wr.heap.size 3 (.int .i64 0) 1 8 Tryz.underlying35 zIO rfl Nat.one_pos (.slice (some ⟨wr.heap.size,0,none⟩) 1 1) 1 _ rfl HLIT.out la ln lc (ll.map (Value.int .i64)) rfl L1.out L2.out HNEW.out (ints_oneCell _ _) M1.out M2.out M3.out ?_;intro a9 c9 w9 own9 g9;refine Stop.of ?_)
   refine Stop.go ?_
   have hb9:Below wr.heap.size wr w9:=((Below.refl _ _).alloc (Nat.le_refl _) _).grown g9 M3.out (fun q hq=>(HLIT.out.lt q hq).1)
   have own9':w9.ownsRow wr.heap.size 3 1 (.slice a9 (1+ln) c9) (1+ln) (([x]++ll).map (Value.int .i64)):=by rw[<- HMP.out];exact own9
   have HB9:=hid hb9
   have hnc:1+ln<=c9∧∀b o f,a9=some ⟨b,o,f⟩->b≠g:=by
    rcases own9'.2 with⟨e,h0⟩|⟨g',cap',cur,e,hbg,hgg,hnc,_⟩
    ·omega
    ·cases e
     refine⟨hnc,fun b o f e=>?_⟩
     cases e
     have:=HGW.out
     omega
   obtain⟨a9',c9',e9,hi9,_⟩:=zCP own9' HLL.out
   cases e9
   have HT:=hid (trimmed_s w9 a9 (1+ln) c9 ([x]++ll) HLL.out (by omega) hnc.1 hi9 HDL.out)
   rw[HVL.out]at HT
   have HNE:=hid hnc.2
   clear own9 own9' g9 hb9 hnc hi9 HLIT HNEW M1 M2 M3 hc
   go_upto_region 7 with (go_at_call 141;refine HT.out.mono ?_;rintro e w2 ⟨k2,rfl,hv2,hb2⟩;have HV2:=hid hv2;have HB2:=hid (zAA HB9.out hb2);clear hv2 hb2;refine Stop.of ?_)
   refine Stop.go ?_
   obtain⟨X,hX⟩:=exq (x+1000000000*R)
   rw[<- hX]at HV2
   have HX2:=hid (show 0<=X∧X<M*1000000000 from by
    have h1:=HX.out
    have h2:=HRB.out
    omega)
   have HXE:=hid hX
   have HUK:=hid (fun(Z:World) (hZ:Below w2.heap.size w2 Z)=>HU.out.below (zAA HBK.out (zAA HB2.out hZ)))
   clear hX HT
   go_wp2
   go_loopw [9,10] (fun lo hi wq=>∃A B:Int,lo=.int .i64 A∧hi=.int .i64 B∧0<=A∧A<B∧B<=1000000000∧Below w2.heap.size w2 wq∧Hid (M*A<=X∧X<M*B)) (fun lo hi _=>(intOf hi-intOf lo).toNat)
   case atStart=>exact⟨0,1000000000,rfl,rfl,by decide,by decide,by decide,Below.refl _ _,hid ⟨by rw[Int.mul_zero];exact HX2.out.1,HX2.out.2⟩⟩
   case round=>
    obtain⟨A,B,rfl,rfl,hA0,hAB,hB9,hbq,HAB⟩:=hrel
    have hw2:IntKind.i64.wrap (B-A)=B-A:=IntWalk.i64_in _ (by omega)
    by_cases hgo:1<B-A
    ·obtain⟨C,hC⟩:=exq ((A+B)/2)
     have hC1:A<C∧C<B:=by omega
     have hw3:IntKind.i64.wrap (A+B)=A+B:=IntWalk.i64_in _ (by omega)
     have hw4:(A+B).tdiv 2=C:=by rw[hC];exact Int.tdiv_eq_ediv_of_nonneg (by omega)
     have HNO:=hid (fun(Z:World)=>zGO Z C (by omega) (by omega))
     have HBQ:=hid hbq
     have hcc:M*C<=X∧cmpI (M*C) X<=0∨X<M*C∧¬cmpI (M*C) X<=0:=by
      rcases Int.lt_or_le X (M*C)with h|h
      ·exact .inr ⟨h,fun k=>by have:=zHU.1 k;omega⟩
      ·exact .inl ⟨h,zHU.2 h⟩
     obtain⟨cv,hcv⟩:=exq (cmpI (M*C) X)
     have HCV:=hid hcv
     rw[<- hcv]at hcc
     clear hbq hC hcv
     rcases hcc with⟨hc1,hc2⟩|⟨hc1,hc2⟩
     all_goals
      have HC1:=hid hc1
      clear hc1
      go_wp2_with (go_at_call 74;refine(HNO.out _).mono ?_;rintro e w3 ⟨v3,rfl,hv3,hb3⟩;refine Stop.of ?_)
      refine Stop.go ?_
      obtain⟨p1,p2,p3,hpe⟩:∃a n c,v3=.slice a n c:=by obtain⟨a,n,c,_,h,_⟩:=hv3;exact⟨a,n,c,h⟩
      subst hpe
      have HB3:=hid (zAA HBQ.out hb3)
      have HTM:=hid (zEW w3 _ _ K 3 M C (HUK.out w3 (zAA HBQ.out hb3)) hv3 (by omega) (by omega))
      clear hv3 hb3
      go_wp2_with (go_at_call 75;refine HTM.out.mono ?_;rintro e w4 ⟨v4,rfl,hv4,hb4⟩;refine Stop.of ?_)
      refine Stop.go ?_
      obtain⟨q1,q2,q3,hqe⟩:∃a n c,v4=.slice a n c:=by obtain⟨a,n,c,_,h,_⟩:=hv4;exact⟨a,n,c,h⟩
      subst hqe
      have HB4:=hid (zAA HB3.out hb4)
      have HOR:=hid (order_c w4 _ _ (K+3) (1+ln) (M*C) X hv4 (HV2.out.below HB4.out) (by omega) (by omega))
      rw[<- HCV.out]at HOR
      clear hv4 hb4 HTM
      go_wp2_with (go_at_call 77;refine HOR.out.mono ?_;rintro e w5 ⟨rfl,hb5⟩;refine Stop.of ?_)
      refine Stop.go ?_
      have HB5:=hid (zAA HB4.out hb5)
      clear hb5 HOR
      go_wp2
     ·exact⟨⟨C,B,rfl,rfl,by omega,by omega,by omega,HB5.out,hid ⟨HC1.out,HAB.out.2⟩⟩,by simp[intOf];omega⟩
     ·exact⟨⟨A,C,rfl,rfl,by omega,by omega,by omega,HB5.out,hid ⟨HAB.out.1,HC1.out⟩⟩,by simp[intOf];omega⟩
    ·obtain rfl:B=A+1:=by omega
     have hds:=div_step (q:=valN (l.drop (s+1))/M) (r:=R) HM.out HRB.out.1 HRB.out.2 HX.out.1 HX.out.2 (A:=A) (by rw[<- HXE.out];exact HAB.out.1) (by rw[<- HXE.out];exact HAB.out.2)
     have hdv:R+M*(valN (l.drop (s+1))/M)=valN (l.drop (s+1)):=by
      rw[HI.out.2.2.2.1];exact Int.emod_add_mul_ediv _ _
     rw[hdv,<- HDS.out,<- HXE.out]at hds
     have HDV:=hid hds
     have hspq:=HSPK.out wr (zAA HB2.out hbq)
     have hol:=HI.out.1
     have hfz:=hspq.frozen s
     have hcl:=hspq.cell (j:=s) (by omega)
     have HSS:=hid (hspq.set s (by omega) A)
     have hbw:Below w.heap.size w wr:=zAA HBK.out (zAA HB2.out hbq)
     have HBE:=hid (zAE hbw HG.out s (.int .i64 A))
     have HLV:=hid ((HV2.out.below hbq).other (g:=g) HNE.out s (.int .i64 A))
     have hgl:=hspq.lt
     have HOD:=hid (show(o.set s A).length=n∧DigL (o.set s A)∧valN (o.set s A)=pw s*(valN (l.drop s)/M)∧∀q,q<s->digF (o.set s A) q=0 from by
      obtain⟨j1,j2,j3,j4,j5⟩:=HI.out
      refine⟨by simp[j1],j2.set hA0 (by omega),?_,fun q hq=>by rw[zKQ (by omega)];exact j5 q (by omega)⟩
      rw[set_val (by omega),j3,j5 s (by omega),hds.1,pw]
      exact div_sum)
     have HNO:=hid (fun(Z:World)=>zGO Z A hA0 (by omega))
     have HXM:=hid (show M*A<=X from HAB.out.1)
     have hsz:(0:Nat)+s=s:=Nat.zero_add s
     clear hds hdv hspq hol hbw hbq HAB hgo hw2
     obtain⟨z,hz⟩:=exq (o[s]?.getD 0)
     rw[<- hz]at hcl
     clear hz
     go_upto_region 14 with fail
     clear hfz hcl hgl
     obtain⟨we,hwe⟩:=exq (wr.setCell ⟨g,s,none⟩ (.int .i64 A))
     rw[<- hwe]at HSS HBE HLV⊢
     have HUE:=hid (fun(Z:World) (hZ:Below we.heap.size we Z)=>HU.out.below (zAA HBE.out hZ))
     clear hwe hsz
     go_wp2_with (go_at_call 74;refine(HNO.out _).mono ?_;rintro e w3 ⟨v3,rfl,hv3,hb3⟩;refine Stop.of ?_)
     refine Stop.go ?_
     obtain⟨p1,p2,p3,hpe⟩:∃a n c,v3=.slice a n c:=by obtain⟨a,n,c,_,h,_⟩:=hv3;exact⟨a,n,c,h⟩
     subst hpe
     have HB3:=hid hb3
     have HTM:=hid (zEW w3 _ _ K 3 M A (HUE.out w3 hb3) hv3 (by omega) (by omega))
     clear hv3 hb3
     go_wp2_with (go_at_call 75;refine HTM.out.mono ?_;rintro e w4 ⟨v4,rfl,hv4,hb4⟩;refine Stop.of ?_)
     refine Stop.go ?_
     obtain⟨q1,q2,q3,hqe⟩:∃a n c,v4=.slice a n c:=by obtain⟨a,n,c,_,h,_⟩:=hv4;exact⟨a,n,c,h⟩
     subst hqe
     have HB4:=hid (zAA HB3.out hb4)
     have HMI:=hid (minus_c w4 _ _ (1+ln) (K+3) X (M*A) (HLV.out.below HB4.out) hv4 (by omega) (by omega) HXM.out)
     clear hv4 hb4 HTM
     go_wp2_with (go_at_call 78;refine HMI.out.mono ?_;rintro e w5 ⟨v5,rfl,hv5,hb5⟩;refine Stop.of ?_)
     refine Stop.go ?_
     have HB5:=hid (zAA HB4.out hb5)
     have hrm:=HDV.out.2
     have hlt:=Int.emod_lt_of_pos (valN (l.drop s)) HM.out
     have HR5:=hid (HTI.out w5 v5 _ _ hv5 (by rw[<- hrm];exact hlt))
     clear hv5 hb5 HMI hlt
     obtain⟨r1,r2,r3,hre⟩:∃a n c,v5=.slice a n c:=by obtain⟨a,n,c,_,h,_⟩:=HR5.out;exact⟨a,n,c,h⟩
     subst hre
     go_wp2
     refine⟨⟨s,o.set s A,_,by omega,by go_num,HSS.out.keep (HB5.out.block g HSS.out.lt),zAA HBE.out HB5.out,HR5.out,hid ⟨HOD.out.1,HOD.out.2.1,HOD.out.2.2.1,hrm.symm,HOD.out.2.2.2⟩⟩,by simp[intOf];try omega⟩
end
section
open Go.RowKit
def sgn(s:Bool)(N:Int):Int:=if s=true then-N else N
theorem plusQ_val{s t:Bool}{N D M E:Int}:sgn (zGN (s,N,D) (t,M,E)).1 (zGN (s,N,D) (t,M,E)).2.1=sgn s N*E+sgn t M*D:=by
 unfold zGN sgn
 cases s<;>cases t<;>simp<;>(try split)<;>(try simp)<;>grind
theorem plusQ_den{s t:Bool}{N D M E:Int}:(zGN (s,N,D) (t,M,E)).2.2=D*E:=by
 unfold zGN
 simp only[]
 split
 ·rfl
 ·split<;>rfl
theorem set_blk{Y:World}{g:Nat}{c:Array Value}{T:TypeId}{fz:Nat×Nat}(h:Y.heap[g]? =some (.cells c T fz))(o:Nat)(v:Value):(Y.setCell ⟨g,o,none⟩ v).heap[g]? =some (.cells (c.setIfInBounds o v) T fz):=by
 obtain⟨hlt,hk⟩:=Array.getElem?_eq_some_iff.1 h
 show(Y.heap.modify g _)[g]? =_
 rw[Array.getElem?_eq_getElem (by rw[Array.size_modify];exact hlt),Array.getElem_modify_self,hk]
 rfl
end
section
open Go.RowKit
theorem RatQ.cast_den{w:World}{v:Value}{L:Nat}{s:Bool}{N D E:Int}(h:RatQ w v L s N D)(e:D=E):RatQ w v L s N E:=e▸h
def RatV(w:World)(v:Value)(L:Nat)(n d:Int):Prop:=∃s N,RatQ w v L s N d∧sgn s N=n
theorem RatV.below{w w':World}{v:Value}{L:Nat}{n d:Int}(h:RatV w v L n d)(hb:Below w.heap.size w w'):RatV w' v L n d:=by
 obtain⟨s,N,h,e⟩:=h
 exact⟨s,N,h.below hb,e⟩
theorem RatV.agg{w:World}{v:Value}{L:Nat}{n d:Int}(h:RatV w v L n d):∃s a k c b m e,v=.agg #[.bool s,.slice a k c,.slice b m e]∧True:=by
 obtain⟨s,N,⟨a,k,c,b,m,e,rfl,_,_⟩,_⟩:=h
 exact⟨s,a,k,c,b,m,e,rfl,trivial⟩
theorem RatV.le{w:World}{v:Value}{L K:Nat}{n d:Int}(h:RatV w v L n d)(hk:L<=K):RatV w v K n d:=by
 obtain⟨s,N,h,e⟩:=h
 exact⟨s,N,h.le hk,e⟩
theorem sgn_nat(N:Int):sgn (decide (N<0)) (N.natAbs:Nat)=N:=by
 unfold sgn
 by_cases h:N<0<;>simp[h]<;>omega
theorem rplus_v(w:World)(v u:Value)(L K:Nat)(n d m e:Int)(h:RatV w v L n d)(k:RatV w u K m e)(hL:L<=100)(hK:K<=100):
 Calls Tryz.prog 24 #[v,u] w fun e' w'=>∃x,e'=.returned x∧RatV w' x (L+K+1) (n*e+m*d) (d*e)∧Below w.heap.size w w':=by
 obtain⟨s,N,h,rfl⟩:=h
 obtain⟨t,M,k,rfl⟩:=k
 refine(rplus_c w v u L K s t N d M e h k hL hK).mono ?_
 rintro e' w' ⟨x,rfl,hx,hb⟩
 refine⟨x,rfl,⟨_,_,hx.cast_den plusQ_den,plusQ_val⟩,hb⟩
theorem exact_v(w:World)(N D:Int)(hN: -4611686018427387904<=N∧N<=4611686018427387904)(hD:0<=D∧D<=4611686018427387904):
 Calls Tryz.prog 22 #[.agg #[.int .i64 N,.int .i64 D]] w fun e w'=>∃x,e=.returned x∧RatV w' x 3 N D∧Below w.heap.size w w':=by
 refine(exact_c w N D hN hD).mono ?_
 rintro e' w' ⟨x,rfl,hx,hb⟩
 exact⟨x,rfl,⟨_,_,hx,sgn_nat N⟩,hb⟩
theorem whole_v(w:World)(n:Int)(hN: -4611686018427387904<=n∧n<=4611686018427387904):
 Calls Tryz.prog 91 #[.int .i64 n] w fun e w'=>∃x,e=.returned x∧RatV w' x 3 n 1∧Below w.heap.size w w':=by
 refine(nwhole_c w n hN).mono ?_
 rintro e' w' ⟨x,rfl,hx,hb⟩
 exact⟨x,rfl,⟨_,_,hx,sgn_nat n⟩,hb⟩
def zKW(w:World)(g L:Nat)(n d:Int):Prop:=∃s a k c b m e,w.heap[g]? =some (.cells #[.bool s,.slice a k c,.slice b m e] 37 (0,0))∧RatV w (.agg #[.bool s,.slice a k c,.slice b m e]) L n d
theorem zKW.below{w w':World}{g L:Nat}{n d:Int}(h:zKW w g L n d)(hb:Below w.heap.size w w'):zKW w' g L n d:=by
 obtain⟨s,a,k,c,b,m,e,h1,h2⟩:=h
 exact⟨s,a,k,c,b,m,e,(hb.block g (Array.getElem?_eq_some_iff.1 h1).1).trans h1,h2.below hb⟩
theorem zKW.le{w:World}{g L K:Nat}{n d:Int}(h:zKW w g L n d)(hk:L<=K):zKW w g K n d:=by
 obtain⟨s,a,k,c,b,m,e,h1,h2⟩:=h
 exact⟨s,a,k,c,b,m,e,h1,h2.le hk⟩
def QBlk(w:World)(g:Nat):Prop:=∃s a k c b m e,w.heap[g]? =some (.cells #[.bool s,.slice a k c,.slice b m e] 37 (0,0))
theorem QBlk.below{w w':World}{g:Nat}(h:QBlk w g)(hb:Below w.heap.size w w'):QBlk w' g:=by
 obtain⟨s,a,k,c,b,m,e,h1⟩:=h
 exact⟨s,a,k,c,b,m,e,(hb.block g (Array.getElem?_eq_some_iff.1 h1).1).trans h1⟩
theorem QBlk.store{w:World}{g:Nat}(h:QBlk w g){v:Value}{L:Nat}{n d:Int}(k:RatV w v L n d):
 ∃s a k c b m e,v=.agg #[.bool s,.slice a k c,.slice b m e]∧(∀o,o<3->∃u,w.cell? ⟨g,o,none⟩=some u)∧(∀o,w.frozen? ⟨g,o,none⟩=false)∧g<w.heap.size∧
  zKW (((w.setCell ⟨g,0,none⟩ (.bool s)).setCell ⟨g,1,none⟩ (.slice a k c)).setCell ⟨g,2,none⟩ (.slice b m e)) g L n d∧
  RatV (((w.setCell ⟨g,0,none⟩ (.bool s)).setCell ⟨g,1,none⟩ (.slice a k c)).setCell ⟨g,2,none⟩ (.slice b m e)) (.agg #[.bool s,.slice a k c,.slice b m e]) L n d:=by
 obtain⟨s0,a0,k0,c0,b0,m0,e0,h1⟩:=h
 obtain⟨t,N,⟨a,k,c,b,m,e,rfl,hN,hD⟩,hv⟩:=k
 have hng:∃c,w.heap[g]? =some (.cells c 37 (0,0))∧∀x:Int,∀o:Nat,c[o]? ≠some (.int .i64 x):=
  ⟨_,h1,fun x o=>by match o with|0=>simp|1=>simp|2=>simp|o+3=>simp⟩
 have hr:RatV (((w.setCell ⟨g,0,none⟩ (.bool t)).setCell ⟨g,1,none⟩ (.slice a k c)).setCell ⟨g,2,none⟩ (.slice b m e)) (.agg #[.bool t,.slice a k c,.slice b m e]) L n d:=
  ⟨t,N,⟨_,_,_,_,_,_,rfl,hN.keeps3 hng,hD.keeps3 hng⟩,hv⟩
 refine⟨t,a,k,c,b,m,e,rfl,?_,fun o=>by simp[World.frozen?,h1],(Array.getElem?_eq_some_iff.1 h1).1,?_,hr⟩
 ·intro o ho
  match o with
  |0=>exact⟨_,by simp[World.cell?,h1];rfl⟩
  |1=>exact⟨_,by simp[World.cell?,h1];rfl⟩
  |2=>exact⟨_,by simp[World.cell?,h1];rfl⟩
  |o+3=>omega
 ·have h2:=set_blk (set_blk (set_blk h1 0 (.bool t)) 1 (.slice a k c)) 2 (.slice b m e)
  exact⟨t,a,k,c,b,m,e,h2,hr⟩
end
section
open Go.RowKit
theorem two_digits{l:List Int}(hd:DigL l)(h:valN l<=10000000000):digF l 0+1000000000*digF l 1=valN l:=by
 have e:=zHT l 2
 have h1:=zCF l 0
 have h2:=zCF l 1
 rw[List.take_zero]at h1
 have h3:=(DigL.bnd (l:=l.drop 2) fun x hx=>hd x (List.mem_of_mem_drop hx)).1
 have h4:=(hd.take 2).bnd.1
 have p0:pw 0=1:=rfl
 have p1:pw 1=1000000000:=by decide+kernel
 have p2:pw 2=1000000000000000000:=by decide+kernel
 rw[p0]at h1
 rw[p1]at h2
 rw[p2]at e
 have h5:valN (l.take (0+1))=0+1*digF l 0:=h1
 rw[show(0:Nat)+1=1 from rfl]at h5
 rw[show 1+1=2 from rfl]at h2
 omega
theorem nsmall_c(w:World)(v:Value)(L:Nat)(N:Int)(h:NatV w v L N)(hL:L<=400):
 Calls Tryz.prog 160 #[v] w fun e w'=>e=.returned (.tuple #[.int .i64 (if N<=10000000000 then N else 0),.bool (decide (N<=10000000000))])∧Below w.heap.size w w':=by
 have HV:=hid h
 obtain⟨a,n,cap,l,rfl,hn,hnL,H,hd,ht,hv⟩:=h
 have HNO:=hid (fun(X:World)=>zGO X 10000000000 (by decide) (by decide))
 have HOR:=hid (fun(X:World) (u:Value) (hX:Below w.heap.size w X) (hu:NatV X u 3 10000000000)=>order_c X (.slice a n cap) u L 3 N 10000000000 (HV.out.below hX) hu (by omega) (by omega))
 have HD0:=hid (fun(X:World) (hX:Below w.heap.size w X)=>show Calls Tryz.prog 140 #[.slice a n cap,.int .i64 0] X fun e w'=>e=.returned (.int .i64 (digF l 0))∧X=w' from zGS X a n cap l hn (by omega) (H.below hX) 0)
 have HD1:=hid (fun(X:World) (hX:Below w.heap.size w X)=>show Calls Tryz.prog 140 #[.slice a n cap,.int .i64 1] X fun e w'=>e=.returned (.int .i64 (digF l 1))∧X=w' from zGS X a n cap l hn (by omega) (H.below hX) 1)
 have b0:=zCH hd 0
 have b1:=zCH hd 1
 obtain⟨cv,hcv⟩:=exq (cmpI N 10000000000)
 rw[<- hcv]at HOR
 by_cases hle:N<=10000000000
 ·have hc:¬0<cv:=by have:=zHU.2 hle;omega
  have h2:=two_digits hd (by rw[hv];exact hle)
  rw[hv]at h2
  rw[if_pos hle,decide_eq_true hle]
  obtain⟨d0,hd0⟩:=exq (digF l 0)
  obtain⟨d1,hd1⟩:=exq (digF l 1)
  rw[<- hd0]at HD0 b0 h2
  rw[<- hd1]at HD1 b1 h2
  have hw1:IntKind.i64.wrap (1000000000*d1)=1000000000*d1:=IntWalk.i64_in _ (by omega)
  have hw2:IntKind.i64.wrap (d0+1000000000*d1)=N:=by rw[h2];exact IntWalk.i64_in _ (by omega)
  clear hn hnL H hd ht hv hcv hle h2 hd0 hd1 b0 b1
  go_enter Tryz.func160,Tryz.ntmps160
  go_wp2_with (go_at_call 74;refine(HNO.out _).mono ?_;rintro e w1 ⟨v1,rfl,hv1,hb1⟩;refine Stop.of ?_)
  refine Stop.go ?_
  obtain⟨p1,p2,p3,hpe⟩:∃a n c,v1=Value.slice a n c:=by obtain⟨a,n,c,_,h,_⟩:=hv1;exact⟨a,n,c,h⟩
  subst hpe
  have HB1:=hid hb1
  have HO:=hid (HOR.out w1 _ hb1 hv1)
  clear hv1 hb1
  go_wp2_with (go_at_call 77;refine HO.out.mono ?_;rintro e w2 ⟨rfl,hb2⟩;refine Stop.of ?_)
  refine Stop.go ?_
  have HB2:=hid (zAA HB1.out hb2)
  clear hb2
  go_wp2_with (go_at_call 140;refine(HD0.out _ HB2.out).mono ?_;rintro e w3 ⟨rfl,rfl⟩;refine Stop.of ?_)
  refine Stop.go ?_
  go_wp2_with (go_at_call 140;refine(HD1.out _ HB2.out).mono ?_;rintro e w3 ⟨rfl,rfl⟩;refine Stop.of ?_)
  refine Stop.go ?_
  go_wp2
  go_ret2
  exact⟨rfl,HB2.out⟩
 ·have hc:0<cv:=by
   rcases Int.lt_or_le 0 cv with k|k
   ·exact k
   ·exact absurd (zHU.1 (by rw[<- hcv];exact k)) hle
  rw[if_neg hle,decide_eq_false hle]
  clear hn hnL H hd ht hv hcv hle b0 b1 HD0 HD1
  go_enter Tryz.func160,Tryz.ntmps160
  go_wp2_with (go_at_call 74;refine(HNO.out _).mono ?_;rintro e w1 ⟨v1,rfl,hv1,hb1⟩;refine Stop.of ?_)
  refine Stop.go ?_
  obtain⟨p1,p2,p3,hpe⟩:∃a n c,v1=Value.slice a n c:=by obtain⟨a,n,c,_,h,_⟩:=hv1;exact⟨a,n,c,h⟩
  subst hpe
  have HB1:=hid hb1
  have HO:=hid (HOR.out w1 _ hb1 hv1)
  clear hv1 hb1
  go_wp2_with (go_at_call 77;refine HO.out.mono ?_;rintro e w2 ⟨rfl,hb2⟩;refine Stop.of ?_)
  refine Stop.go ?_
  have HB2:=hid (zAA HB1.out hb2)
  clear hb2
  go_wp2
  go_ret2
  exact⟨rfl,HB2.out⟩
end
section
open Go.RowKit
theorem rsize_c(w:World)(v:Value)(L:Nat)(s:Bool)(N D:Int)(h:RatQ w v L s N D):
 Calls Tryz.prog 125 #[v] w fun e w'=>∃x,e=.returned x∧RatQ w' x L false N D∧Below w.heap.size w w':=by
 obtain⟨na,nn,nc,da,dn,dc,rfl,hN,hD⟩:=h
 obtain⟨s0,hs⟩:=exq (w.heap.size)
 obtain⟨wa,hwa⟩:=exq ((w.alloc (.cells #[.bool s,.slice na nn nc,.slice da dn dc] 37)).alloc (.cells #[.bool false,.slice none 0 0,.slice none 0 0] 37))
 have hba:Below w.heap.size w wa:=by rw[hwa];exact((Below.refl _ _).alloc (Nat.le_refl _) _).alloc (by simp) _
 have q0:wa.heap[s0+1]? =some (.cells #[.bool false,.slice none 0 0,.slice none 0 0] 37 (0,0)):=by
  have:=World.alloc_heap_new (w.alloc (.cells #[.bool s,.slice na nn nc,.slice da dn dc] 37)) (.cells #[.bool false,.slice none 0 0,.slice none 0 0] 37)
  rw[hwa,hs]
  simpa using this
 have hs1:s0+1<wa.heap.size:=(Array.getElem?_eq_some_iff.1 q0).1
 have hc:∀o v,(#[Value.bool s,.slice na nn nc,.slice da dn dc]:Array Value)[o]? =some v->wa.cell? ⟨s0,o,none⟩=some v:=fun o v h=>by
  rw[hwa,hs,World.cell?_alloc_past _ _ _ (by simp),World.cell?_alloc_at _ _ _ _ rfl];exact h
 have HS:=hid (fun(Y:World) (hY:Below wa.heap.size wa Y)=>show Y.cell? ⟨s0,0,none⟩=some (.bool s)∧Y.cell? ⟨s0,1,none⟩=some (.slice na nn nc)∧Y.cell? ⟨s0,2,none⟩=some (.slice da dn dc)from by
  have k0:∀o,Y.cell? ⟨s0,o,none⟩=wa.cell? ⟨s0,o,none⟩:=fun o=>hY.cell (p:=⟨s0,o,none⟩) (by show s0<_;omega)
  exact⟨(k0 0).trans (hc 0 _ rfl),(k0 1).trans (hc 1 _ rfl),(k0 2).trans (hc 2 _ rfl)⟩)
 have HR:=hid (fun(Y:World) (hY:Below wa.heap.size wa Y)=>show Y.cell? ⟨s0+1,0,none⟩=some (.bool false)∧Y.cell? ⟨s0+1,1,none⟩=some (.slice none 0 0)∧Y.cell? ⟨s0+1,2,none⟩=some (.slice none 0 0)∧(∀o,Y.frozen? ⟨s0+1,o,none⟩=false)∧s0+1<Y.heap.size from by
  have h1:=(hY.block (s0+1) hs1).trans q0
  exact⟨by simp[World.cell?,h1],by simp[World.cell?,h1],by simp[World.cell?,h1],fun o=>by simp[World.frozen?,h1],(Array.getElem?_eq_some_iff.1 h1).1⟩)
 have HFIN:=hid (fun(Y:World) (hY:Below wa.heap.size wa Y) (x y z:Value)=>show Below w.heap.size w (((Y.setCell ⟨s0+1,0,none⟩ x).setCell ⟨s0+1,1,none⟩ y).setCell ⟨s0+1,2,none⟩ z)from
  zAE (zAE (zAE (zAA hba hY) (by omega) 0 x) (by omega) 1 y) (by omega) 2 z)
 have HNG:=hid (fun(Y:World) (hY:Below wa.heap.size wa Y)=>show ∃c,Y.heap[s0+1]? =some (.cells c 37 (0,0))∧∀x:Int,∀o:Nat,c[o]? ≠some (.int .i64 x)from
  ⟨_,(hY.block (s0+1) hs1).trans q0,fun x o=>by match o with|0=>simp|1=>simp|2=>simp|o+3=>simp⟩)
 have HNN:=hid (fun(Y:World) (hY:Below wa.heap.size wa Y)=>And.intro (hN.below (zAA hba hY)) (hD.below (zAA hba hY)))
 obtain⟨c0,c1,c2⟩:=HS.out wa (Below.refl _ _)
 obtain⟨x0,x1,x2,hfz,hlt⟩:=HR.out wa (Below.refl _ _)
 have f0:=hfz 0
 have f1:=hfz 1
 have f2:=hfz 2
 have HK1:=hid ((HNN.out wa (Below.refl _ _)).1.keeps3 (g:=s0+1) (u:=.bool false) (v:=.slice na nn nc) (z:=.slice da dn dc) (HNG.out _ (Below.refl _ _)))
 have HK2:=hid ((HNN.out wa (Below.refl _ _)).2.keeps3 (g:=s0+1) (u:=.bool false) (v:=.slice na nn nc) (z:=.slice da dn dc) (HNG.out _ (Below.refl _ _)))
 have HFI:=hid (HFIN.out _ (Below.refl _ _) (.bool false) (.slice na nn nc) (.slice da dn dc))
 have HWA:=hid hwa
 have HSS:=hid hs
 clear hba q0 hs1 hc hN hD hfz hwa
 go_enter Tryz.func125,Tryz.ntmps125
 go_upto_region 1 with fail
 rw[<- hs,<- HWA.out]
 clear hs
 go_wp2
 refine bodyPost_ret (v:=.agg #[.bool false,.slice na nn nc,.slice da dn dc]) ?_ rfl ⟨_,rfl,⟨_,_,_,_,_,_,rfl,HK1.out,HK2.out⟩,HFI.out⟩
 simp[results,Tryz.results125,go_sem,x0,x1,x2,f0,f1,f2,hlt]
theorem rsize_v(w:World)(v:Value)(L:Nat)(n d:Int)(h:RatV w v L n d):
 Calls Tryz.prog 125 #[v] w fun e w'=>∃x,e=.returned x∧RatV w' x L (n.natAbs:Nat) d∧Below w.heap.size w w':=by
 obtain⟨s,N,h,rfl⟩:=h
 refine(rsize_c w v L s N d h).mono ?_
 rintro e w' ⟨x,rfl,hx,hb⟩
 have h0:0<=N:=by obtain⟨_,_,_,_,_,_,_,hN,_⟩:=h;exact hN.nonneg
 refine⟨x,rfl,⟨false,N,hx,?_⟩,hb⟩
 unfold sgn;cases s<;>simp<;>omega
theorem rhalf_c(w:World)(v:Value)(L:Nat)(s:Bool)(N D:Int)(h:RatQ w v L s N D)(hL:L<=100):
 Calls Tryz.prog 98 #[v] w fun e w'=>∃x,e=.returned x∧RatQ w' x (3+L) s N (2*D)∧Below w.heap.size w w':=by
 obtain⟨na,nn,nc,da,dn,dc,rfl,hN,hD⟩:=h
 obtain⟨s0,hs⟩:=exq (w.heap.size)
 obtain⟨wa,hwa⟩:=exq ((w.alloc (.cells #[.bool s,.slice na nn nc,.slice da dn dc] 37)).alloc (.cells #[.bool false,.slice none 0 0,.slice none 0 0] 37))
 have hba:Below w.heap.size w wa:=by rw[hwa];exact((Below.refl _ _).alloc (Nat.le_refl _) _).alloc (by simp) _
 have q0:wa.heap[s0+1]? =some (.cells #[.bool false,.slice none 0 0,.slice none 0 0] 37 (0,0)):=by
  have:=World.alloc_heap_new (w.alloc (.cells #[.bool s,.slice na nn nc,.slice da dn dc] 37)) (.cells #[.bool false,.slice none 0 0,.slice none 0 0] 37)
  rw[hwa,hs]
  simpa using this
 have hs1:s0+1<wa.heap.size:=(Array.getElem?_eq_some_iff.1 q0).1
 have hc:∀o v,(#[Value.bool s,.slice na nn nc,.slice da dn dc]:Array Value)[o]? =some v->wa.cell? ⟨s0,o,none⟩=some v:=fun o v h=>by
  rw[hwa,hs,World.cell?_alloc_past _ _ _ (by simp),World.cell?_alloc_at _ _ _ _ rfl];exact h
 have HS:=hid (fun(Y:World) (hY:Below wa.heap.size wa Y)=>show Y.cell? ⟨s0,0,none⟩=some (.bool s)∧Y.cell? ⟨s0,1,none⟩=some (.slice na nn nc)∧Y.cell? ⟨s0,2,none⟩=some (.slice da dn dc)from by
  have k0:∀o,Y.cell? ⟨s0,o,none⟩=wa.cell? ⟨s0,o,none⟩:=fun o=>hY.cell (p:=⟨s0,o,none⟩) (by show s0<_;omega)
  exact⟨(k0 0).trans (hc 0 _ rfl),(k0 1).trans (hc 1 _ rfl),(k0 2).trans (hc 2 _ rfl)⟩)
 have HR:=hid (fun(Y:World) (hY:Below wa.heap.size wa Y)=>show Y.cell? ⟨s0+1,0,none⟩=some (.bool false)∧Y.cell? ⟨s0+1,1,none⟩=some (.slice none 0 0)∧Y.cell? ⟨s0+1,2,none⟩=some (.slice none 0 0)∧(∀o,Y.frozen? ⟨s0+1,o,none⟩=false)∧s0+1<Y.heap.size from by
  have h1:=(hY.block (s0+1) hs1).trans q0
  exact⟨by simp[World.cell?,h1],by simp[World.cell?,h1],by simp[World.cell?,h1],fun o=>by simp[World.frozen?,h1],(Array.getElem?_eq_some_iff.1 h1).1⟩)
 have HFIN:=hid (fun(Y:World) (hY:Below wa.heap.size wa Y) (x y z:Value)=>show Below w.heap.size w (((Y.setCell ⟨s0+1,0,none⟩ x).setCell ⟨s0+1,1,none⟩ y).setCell ⟨s0+1,2,none⟩ z)from
  zAE (zAE (zAE (zAA hba hY) (by omega) 0 x) (by omega) 1 y) (by omega) 2 z)
 have HNG:=hid (fun(Y:World) (hY:Below wa.heap.size wa Y)=>show ∃c,Y.heap[s0+1]? =some (.cells c 37 (0,0))∧∀x:Int,∀o:Nat,c[o]? ≠some (.int .i64 x)from
  ⟨_,(hY.block (s0+1) hs1).trans q0,fun x o=>by match o with|0=>simp|1=>simp|2=>simp|o+3=>simp⟩)
 have HNN:=hid (fun(Y:World) (hY:Below wa.heap.size wa Y)=>And.intro (hN.below (zAA hba hY)) (hD.below (zAA hba hY)))
 have HM1:=hid (fun X=>zGO X 2 (by omega) (by omega))
 clear hba q0 hs1 hc hN hD
 go_enter Tryz.func98,Tryz.ntmps98
 go_wp2_with fail
 rw[<- hs,<- hwa]
 clear hs hwa
 refine zAG (fun j' X=>decide (j'<=8)=true->X.cell? ⟨s0,0,none⟩=some (.bool s)∧X.cell? ⟨s0,1,none⟩=some (.slice na nn nc)∧X.cell? ⟨s0,2,none⟩=some (.slice da dn dc)) (by kernel_rfl) ?_
 have hbd:Below wa.heap.size wa wa.drew:=(Below.refl _ _).drew
 generalize wa.drew=wd at hbd⊢
 refine AnyT.tD (i:=0) (v:=.pointer (some ⟨s0,0,none⟩)) rfl rfl (by rintro w' ⟨y1,y2,y3⟩;go_simp) (HS.out _ hbd) ?_;go_frame
 refine AnyT.tD (i:=1) (v:=.bool s) rfl rfl (by rintro w' ⟨y1,y2,y3⟩;go_simp) (HS.out _ hbd) ?_;go_frame
 refine AnyT.tD (i:=2) (v:=.pointer (some ⟨s0,1,none⟩)) rfl rfl (by rintro w' ⟨y1,y2,y3⟩;go_simp) (HS.out _ hbd) ?_;go_frame
 refine AnyT.tD (i:=3) (v:=.slice na nn nc) rfl rfl (by rintro w' ⟨y1,y2,y3⟩;go_simp) (HS.out _ hbd) ?_;go_frame
 refine AnyT.tD (i:=5) (v:=.pointer (some ⟨s0,2,none⟩)) rfl rfl (by rintro w' ⟨y1,y2,y3⟩;go_simp) (HS.out _ hbd) ?_;go_frame
 refine AnyT.tD (i:=6) (v:=.slice da dn dc) rfl rfl (by rintro w' ⟨y1,y2,y3⟩;go_simp) (HS.out _ hbd) ?_;go_frame
 refine AnyT.nx (i:=4) rfl ?_
 go_wp2_with (go_at_call 74;refine(HM1.out _).mono ?_;rintro e w1 ⟨v1,rfl,hv1,hb1⟩;refine Stop.of ?_)
 refine Stop.go ?_
 obtain⟨a1,n1,c1,rfl⟩:=hv1.slice
 have HV1:=hid hv1
 have HB1:=hid (zAA hbd hb1)
 clear hv1 hb1
 go_wp2
 refine⟨fun _=>HS.out _ HB1.out,?_⟩
 refine AnyT.nx (i:=7) rfl ?_
 go_wp2_with (go_at_call 75;refine(zEW _ _ _ 3 L 2 D HV1.out (HNN.out _ HB1.out).2 (by omega) (by omega)).mono ?_;rintro e w2 ⟨v2,rfl,hv2,hb2⟩;refine Stop.of ?_)
 refine Stop.go ?_
 obtain⟨a2,n2,c2,rfl⟩:=hv2.slice
 have HB2:=hid (zAA HB1.out hb2)
 have HK1:=hid ((((HNN.out _ HB2.out).1.le (show L<=3+L by omega))).keeps3 (g:=s0+1) (u:=.bool s) (v:=.slice na nn nc) (z:=.slice a2 n2 c2) (HNG.out _ HB2.out))
 have HK2:=hid (hv2.keeps3 (g:=s0+1) (u:=.bool s) (v:=.slice na nn nc) (z:=.slice a2 n2 c2) (HNG.out _ HB2.out))
 obtain⟨x0,x1,x2,hfz,hlt⟩:=HR.out _ HB2.out
 have f0:=hfz 0
 have f1:=hfz 1
 have f2:=hfz 2
 have HFI:=hid (HFIN.out _ HB2.out (.bool s) (.slice na nn nc) (.slice a2 n2 c2))
 clear hv2 hb2 hfz HV1
 go_wp2
 refine⟨fun _=>HS.out _ HB2.out,?_⟩
 refine AnyT.tD (i:=8) (v:=.agg #[.bool s,.slice na nn nc,.slice a2 n2 c2]) rfl rfl (by rintro w' ⟨y1,y2,y3⟩;go_simp) (HS.out _ HB2.out) ?_;go_frame
 refine AnyT.nx (i:=9) rfl ?_
 go_wp2
 refine⟨fun h=>absurd h (by decide),?_⟩
 refine AnyT.done (by kernel_rfl) ?_ _
 go_wp2
 refine bodyPost_ret (v:=.agg #[.bool s,.slice na nn nc,.slice a2 n2 c2]) ?_ rfl ⟨_,rfl,⟨_,_,_,_,_,_,rfl,HK1.out,HK2.out⟩,HFI.out⟩
 simp[results,Tryz.results98,go_sem,x0,x1,x2,f0,f1,f2,hlt]
theorem rhalf_v(w:World)(v:Value)(L:Nat)(n d:Int)(h:RatV w v L n d)(hL:L<=100):
 Calls Tryz.prog 98 #[v] w fun e w'=>∃x,e=.returned x∧RatV w' x (3+L) n (2*d)∧Below w.heap.size w w':=by
 obtain⟨s,N,h,rfl⟩:=h
 refine(rhalf_c w v L s N d h hL).mono ?_
 rintro e w' ⟨x,rfl,hx,hb⟩
 exact⟨x,rfl,⟨s,N,hx,rfl⟩,hb⟩
end
section
open Go.RowKit
def cellI(w:World)(a:Option Addr)(j:Nat):Int:=match a with
 |some p=>(match w.cell? ⟨p.block,p.off+j,none⟩with|some (.int _ z)=>z|_=>0)
 |none=>0
def natW(w:World)(v:Value):Nat:=match v with
 | .slice a n _=>(valN ((List.range n).map (cellI w a))).toNat
 |_=>0
theorem natW_of{w:World}{v:Value}{L:Nat}{N:Int}(h:NatV w v L N):natW w v=N.toNat:=by
 obtain⟨a,n,cap,l,rfl,hn,_,H,_,_,rfl⟩:=h
 have e:(List.range n).map (cellI w a)=l:=by
  refine List.ext_getElem (by simp[hn]) fun j h1 h2=>?_
  obtain⟨b,o,rfl,hb,hc⟩:=H j h2
  simp only[List.getElem_map,List.getElem_range]
  unfold cellI
  show(match w.cell? ⟨b,o+j,none⟩with|some (.int _ z)=>z|_=>0)=_
  rw[hc,List.getElem?_eq_getElem h2];rfl
 show(valN ((List.range n).map (cellI w a))).toNat=_
 rw[e]
theorem guard_iff{k p P B:Int}(hp:0<p)(hP:P<=B):(B-P).tdiv p<k↔B<k*p+P:=by
 rw[Int.tdiv_eq_ediv_of_nonneg (by omega),Int.ediv_lt_iff_lt_mul hp]
 omega
def lowE(n d:Int):Rt×Bool:=if zAC (zAK n d)=true then(zAK n d,true)else((0,0),false)
theorem lowE_no{s:Bool}{N D:Int}(hD:0<D)(h:zAC (zAK N D)=false):lowE (sgn s N) D=((0,0),false):=by
 have e:=low_neg (n:=N) hD
 have h2:zAC (-(zAK N D).1,(zAK N D).2)=false:=by rw[zEU];exact h
 cases s
 ·simp[lowE,sgn,h]
 ·simp[lowE,sgn,e,h2]
theorem lowE_yes{s:Bool}{N D p q:Int}(hD:0<D)(h:zAK N D=(p,q))(hv:zAC (p,q)=true):lowE (sgn s N) D=((if s=true then-p else p,q),true):=by
 have e:=low_neg (n:=N) hD
 rw[h]at e
 have h2:zAC (-p,q)=true:=by rw[zEU];exact hv
 cases s
 ·simp[lowE,sgn,h,hv]
 ·simp[lowE,sgn,e,h2]
theorem pq_pos{N D n d p q P Q:Int}(h:CfI N D n d p q P Q):0<p∨0<q:=by
 rcases Int.lt_or_le 0 p with c|c
 ·exact .inl c
 ·rcases Int.lt_or_le 0 q with e|e
  ·exact .inr e
  ·have h1:p=0:=by have:=h.p0;omega
   have h2:q=0:=by have:=h.q0;omega
   have:=h.det
   rw[h1,h2]at this
   omega
theorem over_k{N D n d p q P Q k:Int}(h:CfI N D n d p q P Q)(hk:10000000000<k):10000000000<k*p+P∨400<k*q+Q:=by
 have hP:=h.P0
 have hQ:=h.Q0
 rcases pq_pos h with c|c
 ·left
  have:k*1<=k*p:=Int.mul_le_mul_of_nonneg_left (by omega) (by omega)
  omega
 ·right
  have:k*1<=k*q:=Int.mul_le_mul_of_nonneg_left (by omega) (by omega)
  omega
end
section
open Go.RowKit
def PicsAt(w:World)(a:Option Addr)(ls:List (List Rt)):Prop:=
 ∀j (hj:j<ls.length),∃b off ra n cap,a=some ⟨b,off,none⟩∧b<w.heap.size∧w.cell? ⟨b,off+j,none⟩=some (.slice ra n cap)∧ls[j].length=n∧n<=maxLen∧zAX w ra ls[j]
theorem PicsAt.below{w w':World}{a:Option Addr}{l:List (List Rt)}(h:PicsAt w a l)(hb:Below w.heap.size w w'):PicsAt w' a l:=by
 intro j hj
 obtain⟨b,off,ra,n,cap,e,hlt,h0,hn,hm,hi⟩:=h j hj
 exact⟨b,off,ra,n,cap,e,Nat.lt_of_lt_of_le hlt hb.size,(hb.cell (p:=⟨b,_,none⟩) hlt).trans h0,hn,hm,hi.below hb⟩
def TabQ(W:World)(base:Nat)(v:Value)(L:List (List Rt)):Prop:=
 ∃vs,W.ownsRow base 42 1 v L.length vs∧∀j (hj:j<L.length),∃u,vs[j]? =some u∧zEZ W base u L[j]
theorem TabQ.nil(W:World)(base:Nat):TabQ W base (.slice none 0 0) []:=⟨[],World.ownsRow_nil _ _ _ _,fun j hj=>by simp at hj⟩
theorem TabQ.below{W W':World}{base:Nat}{v:Value}{L:List (List Rt)}(h:TabQ W base v L)(hb:Below W.heap.size W W'):TabQ W' base v L:=by
 obtain⟨vs,h1,h2⟩:=h
 refine⟨vs,zBF h1 hb,fun j hj=>?_⟩
 obtain⟨u,hu,hr⟩:=h2 j hj
 exact⟨u,hu,hr.below hb⟩
theorem TabQ.slice{W:World}{base:Nat}{v:Value}{L:List (List Rt)}(h:TabQ W base v L):∃a c,v=.slice a L.length c:=by
 obtain⟨vs,h1,_⟩:=h;exact zAH h1
theorem TabQ.snoc{W w1 w3:World}{base:Nat}{v v' u:Value}{L:List (List Rt)}{r:List Rt}{vs:List Value}(h1:W.ownsRow base 42 1 v L.length vs)
 (h2:∀j (hj:j<L.length),∃u,vs[j]? =some u∧zEZ W base u L[j])(hb:Below W.heap.size W w1)(hr:zEZ w1 base u r)(hg:w1.grownBy w3 v.ownBlock)
 (ho':w3.ownsRow base 42 1 v' (L.length+1) (vs++[u])):TabQ w3 base v' (L++[r]):=by
 have hlen:vs.length=L.length:=by have:=h1.1;omega
 have hup:∀u l,zEZ w1 base u l->zEZ w3 base u l:=fun u l h=>h.keep (T:=fun b=>b<w1.heap.size∧(b<base∨∃c f,w1.heap[b]? =some (.cells c 29 f))) ⟨hg.os,hg.tape,hg.output,hg.size,fun k hk hT=>hg.block k hk (by
  rcases h1.2 with⟨rfl,_⟩|⟨g,cap,cur,rfl,hbg,hgg,_⟩
  ·simp[Value.ownBlock]
  ·intro e
   obtain rfl:k=g:=by simpa[Value.ownBlock]using e
   have hgg':=(hb.block k (Array.getElem?_eq_some_iff.1 hgg).1).trans hgg
   rcases hT.2 with h|⟨c,f,h⟩
   ·omega
   ·rw[h]at hgg';cases hgg')⟩ fun b hb hty=>⟨hb,hty⟩
 refine⟨vs++[u],by simpa using ho',fun j hj=>?_⟩
 simp only[List.length_append,List.length_cons,List.length_nil,Nat.zero_add]at hj
 by_cases hjl:j<L.length
 ·obtain⟨u',hu',hr'⟩:=h2 j hjl
  rw[List.getElem_append_left hjl]
  exact⟨u',by rw[List.getElem?_append_left (by omega)];exact hu',hup _ _ (hr'.below hb)⟩
 ·obtain rfl:j=L.length:=by omega
  rw[List.getElem_append_right (Nat.le_refl _)]
  simp only[Nat.sub_self,List.getElem_cons_zero]
  exact⟨u,by rw[List.getElem?_append_right (by omega),hlen];simp,hup _ _ hr⟩
end
section
open Go.RowKit
theorem r5norm_c(w:World)(a2:Option Addr)(n cap2:Nat)(x:List Rt)(hn:x.length=n)(hm:n<=10)(H2:zAX w a2 x)
 (hx:∀k,0<=(zAD x k).2∧(zAD x k).2<=1000000000000∧ -1000000000000<=(zAD x k).1∧(zAD x k).1<=1000000000000):
 Calls Tryz.prog 87 #[.slice a2 n cap2] w fun e w'=>∃v,e=.returned v∧RatV w' v 90 (zFO x).1 (zFO x).2∧Below w.heap.size w w':=by
 obtain⟨s0,hs⟩:=exq (w.heap.size)
 obtain⟨wa,hwa⟩:=exq (w.alloc (.cells #[.bool false,.slice none 0 0,.slice none 0 0] 37))
 have hba:Below w.heap.size w wa:=by rw[hwa];exact(Below.refl _ _).alloc (Nat.le_refl _) _
 have q0:wa.heap[s0]? =some (.cells #[.bool false,.slice none 0 0,.slice none 0 0] 37 (0,0)):=by
  rw[hwa,hs];exact World.alloc_heap_new w _
 have hs1:s0<wa.heap.size:=(Array.getElem?_eq_some_iff.1 q0).1
 have HQ0:=hid (fun(Y:World) (hY:Below wa.heap.size wa Y)=>show QBlk Y s0 from⟨_,_,_,_,_,_,_,(hY.block s0 hs1).trans q0⟩)
 have HBA:=hid hba
 have HFIN:=hid (fun(Y:World) (hY:Below wa.heap.size wa Y) (x y z:Value)=>show Below w.heap.size w (((Y.setCell ⟨s0,0,none⟩ x).setCell ⟨s0,1,none⟩ y).setCell ⟨s0,2,none⟩ z)from
  zAE (zAE (zAE (zAA hba hY) (by omega) 0 x) (by omega) 1 y) (by omega) 2 z)
 have HXI:=hid (fun(X:World) (hX:Below wa.heap.size wa X)=>H2.below (zAA hba hX))
 have HX:=hid hx
 have HN:=hid hn
 have HSQ:=hid (show zFO x=nrmS x n by unfold zFO;rw[hn])
 have HSZ:=hid (show nrmS x 0=(0,1)from rfl)
 have HSR:=hid (fun t=>show nrmS x (t+1)=if (zAD x t).1≠0 then((nrmS x t).1*(zAD x t).2+((zAD x t).1.natAbs:Int)*(nrmS x t).2,(nrmS x t).2*(zAD x t).2)else nrmS x t from rfl)
 clear hba q0 hs1 H2 hx hn
 go_enter Tryz.func87,Tryz.ntmps87
 go_wp2_with fail
 rw[<- hs,<- hwa]
 clear hs hwa
 go_wp2_with (go_at_call 91;refine(whole_v _ 0 (by decide)).mono ?_;rintro e w1 ⟨v1,rfl,hv1,hb1⟩;refine Stop.of ?_)
 refine Stop.go ?_
 obtain⟨ss,sa,sk,sc,sb,sm',se,rfl,_⟩:=hv1.agg
 have HV1:=hid hv1
 have HB1:=hid hb1
 clear hv1 hb1
 go_wp2_with fail
 obtain⟨wb,hwb⟩:=exq (w1.alloc (.cells #[.bool ss,.slice sa sk sc,.slice sb sm' se] 37))
 obtain⟨g,hg⟩:=exq (w1.heap.size)
 have hrb:zKW wb g 3 0 1:=by
  rw[hwb,hg]
  exact⟨ss,sa,sk,sc,sb,sm',se,World.alloc_heap_new _ _,HV1.out.below ((Below.refl _ _).alloc (Nat.le_refl _) _)⟩
 have hbb:Below wa.heap.size wa wb:=by rw[hwb];exact HB1.out.alloc HB1.out.size _
 have hgs:wa.heap.size<=g:=by rw[hg];exact HB1.out.size
 rw[<- hwb,<- hg]
 have HRB:=hid hrb
 have HBB:=hid hbb
 clear hwb hg hrb hbb HV1 HB1
 go_loopw [9] (fun i wr=>∃t:Nat,t<=n∧i=.int .i64 t∧zKW wr g (3+7*t) (nrmS x t).1 (nrmS x t).2∧Below wa.heap.size wa wr) (fun i _=>n-(intOf i).toNat)
 case atStart=>exact⟨0,Nat.zero_le _,rfl,by rw[HSZ.out];exact HRB.out,HBB.out⟩
 case round=>
  obtain⟨t,ht,rfl,hrr,hbr⟩:=hrel
  by_cases htl:t<n
  ·have htx:t<x.length:=by rw[HN.out];exact htl
   obtain⟨bx,ox,rfl,hbx,hx0,hx1⟩:=(HXI.out wr hbr) t htx
   have hxt:zAD x t=x[t]'htx:=by unfold zAD;rw[List.getElem?_eq_getElem htx];rfl
   rw[<- hxt]at hx0 hx1
   obtain⟨x1,x2,x3,x4⟩:=HX.out t
   have hsr:=HSR.out t
   obtain⟨⟨N,D⟩,hND⟩:∃q,q=zAD x t:=⟨_,rfl⟩
   rw[<- hND]at hx0 hx1 x1 x2 x3 x4 hsr
   simp only[]at hx0 hx1 x1 x2 x3 x4 hsr
   have i0:(0:Int)<=(t:Int):=by omega
   have i1:(t:Int)<(n:Int):=by omega
   have HRR:=hid hrr
   have HBR:=hid hbr
   have HXS:=hid hsr
   have HND:=hid (And.intro (And.intro x3 x4) (And.intro x1 x2))
   clear hsr hND hxt hrr hbr x1 x2 x3 x4 hbx
   go_upto_region 5 with fail
   obtain⟨h,hh⟩:=exq (wr.heap.size)
   obtain⟨wh,hwh⟩:=exq (wr.alloc (.cells #[.int .i64 N,.int .i64 D] 29))
   rw[<- hh,<- hwh]
   have hbh:Below wr.heap.size wr wh:=by rw[hwh];exact(Below.refl _ _).alloc (Nat.le_refl _) _
   have HRH:=hid (show RatI wh h (N,D)by rw[hwh,hh];exact RatI.made wr (N,D))
   have HBH:=hid (zAA HBR.out hbh)
   have HRR2:=hid (HRR.out.below hbh)
   clear hx0 hx1 hh hwh hbh
   obtain⟨h0,h1,_⟩:=HRH.out.cells
   simp only[]at h0 h1
   by_cases hz:N=0
   ·have hvb:(N !=0)=false:=by simp[hz]
    have HNX:=hid (show nrmS x (t+1)=nrmS x t by rw[HXS.out,if_neg (by simp[hz])])
    clear hz
    go_wp2
    refine⟨⟨t+1,by omega,by go_num,by rw[HNX.out];exact HRR2.out.le (by omega),HBH.out⟩,by simp[intOf];omega⟩
   ·have hvb:(N !=0)=true:=by simp[hz]
    obtain⟨⟨sn,sd⟩,hS⟩:∃q,q=nrmS x t:=⟨_,rfl⟩
    have hXS:=HXS.out
    rw[if_pos hz,<- hS]at hXS
    have HNX:=hid hXS
    obtain⟨us,ua,uk,uc,ub,um,ue,hgb,hrv⟩:=HRR2.out
    rw[<- hS]at hrv
    simp only[]at hrv
    have hglt:=(Array.getElem?_eq_some_iff.1 hgb).1
    have HQB:=hid (fun(X:World) (hX:Below wh.heap.size wh X)=>show QBlk X g from⟨us,ua,uk,uc,ub,um,ue,(hX.block g hglt).trans hgb⟩)
    have HRV:=hid (fun(X:World) (hX:Below wh.heap.size wh X)=>hrv.below hX)
    have HS:=hid (fun(X:World) (hX:Below wh.heap.size wh X)=>show X.cell? ⟨g,0,none⟩=some (.bool us)∧X.cell? ⟨g,1,none⟩=some (.slice ua uk uc)∧X.cell? ⟨g,2,none⟩=some (.slice ub um ue)∧X.cell? ⟨h,0,none⟩=some (.int .i64 N)∧X.cell? ⟨h,1,none⟩=some (.int .i64 D)from by
     have h1:=(hX.block g hglt).trans hgb
     obtain⟨c0,c1,_⟩:=(HRH.out.keep (hX.block _ HRH.out.lt)).cells
     exact⟨by simp[World.cell?,h1],by simp[World.cell?,h1],by simp[World.cell?,h1],c0,c1⟩)
    have htn:t<10:=by omega
    clear hXS hS hgb hrv hz
    go_upto_region 6 with fail
    clear h0 h1
    refine zAG (fun j' X=>decide (j'<=4)=true->X.cell? ⟨g,0,none⟩=some (.bool us)∧X.cell? ⟨g,1,none⟩=some (.slice ua uk uc)∧X.cell? ⟨g,2,none⟩=some (.slice ub um ue)∧X.cell? ⟨h,0,none⟩=some (.int .i64 N)∧X.cell? ⟨h,1,none⟩=some (.int .i64 D)) (by kernel_rfl) ?_
    have hbd:Below wh.heap.size wh wh.drew:=(Below.refl _ _).drew
    generalize wh.drew=wd at hbd⊢
    refine AnyT.tD (i:=0) (v:=.agg #[.bool us,.slice ua uk uc,.slice ub um ue]) rfl rfl (by rintro w' ⟨y1,y2,y3,y4,y5⟩;go_simp) (HS.out _ hbd) ?_;go_frame
    refine AnyT.tD (i:=1) (v:=.agg #[.int .i64 N,.int .i64 D]) rfl rfl (by rintro w' ⟨y1,y2,y3,y4,y5⟩;go_simp) (HS.out _ hbd) ?_;go_frame
    refine AnyT.nx (i:=2) rfl ?_
    go_wp2_with (go_at_call 22;refine(exact_v _ N D (by have:=HND.out;omega) (by have:=HND.out;omega)).mono ?_;rintro e w4 ⟨v4,rfl,hv4,hb4⟩;refine Stop.of ?_)
    refine Stop.go ?_
    obtain⟨ps,pa,pk,pc,pb,pm,pe,rfl,_⟩:=hv4.agg
    have HB4:=hid (zAA hbd hb4)
    have HV4:=hid hv4
    clear hv4 hb4
    go_wp2
    refine⟨fun _=>HS.out _ HB4.out,?_⟩
    refine AnyT.nx (i:=3) rfl ?_
    go_wp2_with (go_at_call 125;refine(rsize_v _ _ 3 N D HV4.out).mono ?_;rintro e w5 ⟨v5,rfl,hv5,hb5⟩;refine Stop.of ?_)
    refine Stop.go ?_
    obtain⟨qs,qa,qk,qc,qb,qm,qe,rfl,_⟩:=hv5.agg
    have HB5:=hid (zAA HB4.out hb5)
    have HV5:=hid hv5
    clear hv5 hb5 HV4
    go_wp2
    refine⟨fun _=>HS.out _ HB5.out,?_⟩
    refine AnyT.nx (i:=4) rfl ?_
    go_wp2_with (go_at_call 24;refine(rplus_v _ _ _ (3+7*t) 3 sn sd (N.natAbs:Nat) D (HRV.out _ HB5.out) HV5.out (by omega) (by omega)).mono ?_;rintro e w6 ⟨v6,rfl,hv6,hb6⟩;refine Stop.of ?_)
    refine Stop.go ?_
    obtain⟨zs,za,zk,zc,zb,zm,ze,e6,hcl,hfz,hlt,hin,_⟩:=(HQB.out _ (zAA HB5.out hb6)).store hv6
    subst e6
    have HB6:=hid (zAA HBH.out (zAA HB5.out hb6))
    have HB7:=hid (zAA HB5.out hb6)
    obtain⟨u0,x0⟩:=hcl 0 (by omega)
    obtain⟨u1,x1⟩:=hcl 1 (by omega)
    obtain⟨u2,x2⟩:=hcl 2 (by omega)
    have f0:=hfz 0
    have f1:=hfz 1
    have f2:=hfz 2
    have HIN:=hid (hin.le (show 3+7*t+3+1<=3+7*(t+1)by omega))
    have HBE:=hid (show Below wa.heap.size wa (((w6.setCell ⟨g,0,none⟩ (.bool zs)).setCell ⟨g,1,none⟩ (.slice za zk zc)).setCell ⟨g,2,none⟩ (.slice zb zm ze))from zAE (zAE (zAE HB6.out hgs 0 _) hgs 1 _) hgs 2 _)
    clear hcl hfz hin hv6 hb6 HV5
    go_wp2
    refine⟨fun _=>HS.out _ HB7.out,?_⟩
    refine AnyT.nx (i:=5) rfl ?_
    go_wp2
    refine⟨fun h=>absurd h (by decide),?_⟩
    refine AnyT.done (by kernel_rfl) ?_ _
    go_wp2
    refine⟨⟨t+1,by omega,by go_num,?_,HBE.out⟩,by simp[intOf];omega⟩
    rw[HNX.out]
    exact HIN.out
  ·obtain rfl:t=n:=by omega
   have hni:¬(t:Int)<(t:Int):=by omega
   rw[<- HSQ.out]at hrr
   obtain⟨us,ua,uk,uc,ub,um,ue,hgb,hrv⟩:=hrr
   obtain⟨zs,za,zk,zc,zb,zm,ze,e6,hcl,hfz,hlt,hin,hout⟩:=(HQ0.out _ hbr).store hrv
   cases e6
   obtain⟨u0,x0⟩:=hcl 0 (by omega)
   obtain⟨u1,x1⟩:=hcl 1 (by omega)
   obtain⟨u2,x2⟩:=hcl 2 (by omega)
   have f0:=hfz 0
   have f1:=hfz 1
   have f2:=hfz 2
   have g0:wr.cell? ⟨g,0,none⟩=some (.bool us):=by simp[World.cell?,hgb]
   have g1:wr.cell? ⟨g,1,none⟩=some (.slice ua uk uc):=by simp[World.cell?,hgb]
   have g2:wr.cell? ⟨g,2,none⟩=some (.slice ub um ue):=by simp[World.cell?,hgb]
   have HOUT:=hid (hout.le (show 3+7*t<=90 by omega))
   have HFI:=hid (HFIN.out _ hbr (.bool us) (.slice ua uk uc) (.slice ub um ue))
   clear hcl hfz hin hout hrv hbr hgb
   go_wp2
   refine bodyPost_ret (v:=.agg #[.bool us,.slice ua uk uc,.slice ub um ue]) ?_ rfl ⟨_,rfl,HOUT.out,HFI.out⟩
   simp[results,Tryz.results87,go_sem,x0,x1,x2,f0,f1,f2,hlt]
end
section
open Go.RowKit
def HdF(W:World)(us ur:Value)(f:FitT):Prop:=∃pa pn pc va vn vc,us=.slice pa pn pc∧ur=.slice va vn vc∧f.1.length=pn∧pn<=maxLen∧zAJ W pa f.1∧f.2.length=vn∧vn<=maxLen∧zAX W va f.2
theorem HdF.below{W W':World}{us ur:Value}{f:FitT}(h:HdF W us ur f)(hb:Below W.heap.size W W'):HdF W' us ur f:=by
 obtain⟨pa,pn,pc,va,vn,vc,e1,e2,h1,h2,h3,h4,h5,h6⟩:=h
 exact⟨pa,pn,pc,va,vn,vc,e1,e2,h1,h2,h3.below hb,h4,h5,h6.below hb⟩
theorem zHJ.hd{W:World}{a:Option Addr}{T:List FitT}(h:zHJ W a T){j:Nat}(hj:j<T.length):
 ∃b off us ur,a=some ⟨b,off,none⟩∧b<W.heap.size∧W.cell? ⟨b,off+j*2,none⟩=some us∧W.cell? ⟨b,off+j*2+1,none⟩=some ur∧HdF W us ur T[j]:=by
 obtain⟨b,off,pa,pn,pc,va,vn,vc,e,hb,h0,h1,h2,h3,h4,h5,h6,h7⟩:=h j hj
 exact⟨b,off,_,_,e,hb,h0,h1,pa,pn,pc,va,vn,vc,rfl,rfl,h2,h3,h4,h5,h6,h7⟩
def TabF(X W:World)(v:Value)(T:List FitT):Prop:=
 ∃xs,W.ownsRow X.heap.size 73 2 v T.length xs∧∀j (hj:j<T.length),∃us ur,xs[j*2]? =some us∧xs[j*2+1]? =some ur∧HdF X us ur T[j]
theorem TabF.nil(X W:World):TabF X W (.slice none 0 0) []:=⟨[],World.ownsRow_nil _ _ _ _,fun j hj=>by simp at hj⟩
theorem TabF.below{X W W':World}{v:Value}{T:List FitT}(h:TabF X W v T)(hb:Below W.heap.size W W'):TabF X W' v T:=by
 obtain⟨xs,h1,h2⟩:=h
 exact⟨xs,zBF h1 hb,h2⟩
theorem TabF.slice{X W:World}{v:Value}{T:List FitT}(h:TabF X W v T):∃a c,v=.slice a T.length c:=by
 obtain⟨xs,ho,_⟩:=h;exact zAH ho
theorem TabF.snoc{X w2:World}{v' us ur:Value}{T:List FitT}{t:FitT}{xs:List Value}{q:Nat}(hq:T.length=q)
 (hl:xs.length=q*2)(he:∀j (hj:j<T.length),∃us ur,xs[j*2]? =some us∧xs[j*2+1]? =some ur∧HdF X us ur T[j])(h1:HdF X us ur t)
 (ho':w2.ownsRow X.heap.size 73 2 v' (q+1) (xs++[us,ur])):TabF X w2 v' (T++[t]):=by
 subst hq
 refine⟨xs++[us,ur],by rw[List.length_append];exact ho',fun j hj=>?_⟩
 by_cases e:j<T.length
 ·obtain⟨us',ur',k1,k2,k3⟩:=he j e
  refine⟨us',ur',by rw[List.getElem?_append_left (by omega)];exact k1,by rw[List.getElem?_append_left (by omega)];exact k2,?_⟩
  rw[List.getElem_append_left e];exact k3
 ·have:j=T.length:=by simp at hj;omega
  subst this
  refine⟨us,ur,by rw[List.getElem?_append_right (by omega),hl];simp,by rw[List.getElem?_append_right (by omega),hl,show T.length*2+1-T.length*2=1 by omega];rfl,?_⟩
  simp only[List.getElem_append_right (Nat.le_refl _),Nat.sub_self,List.getElem_cons_zero];exact h1
end
section
open Go.RowKit
theorem r3validR_c(w:World)(N D:Int):Calls Tryz.prog 156 #[.agg #[.int .i64 N,.int .i64 D]] w fun e w'=>e=.returned (.bool (zAC (N,D)))∧Below w.heap.size w w':=by
 obtain⟨wz,hwz⟩:=exq (w.alloc (.cells #[.int .i64 N,.int .i64 D] 29))
 have hbz:Below w.heap.size w wz:=by rw[hwz];exact(Below.refl _ _).alloc (Nat.le_refl _) _
 have l0:wz.cell? ⟨w.heap.size,0,none⟩=some (.int .i64 N):=by rw[hwz,World.cell?_alloc_at _ _ _ _ rfl];rfl
 have l1:wz.cell? ⟨w.heap.size,1,none⟩=some (.int .i64 D):=by rw[hwz,World.cell?_alloc_at _ _ _ _ rfl];rfl
 have HBZ:=hid hbz
 have HV:=hid (show zAC (N,D)=(decide (1<=D)&&(decide (D<=400)&&(decide (-10000000000<=N)&&(decide (N<=10000000000)&&decide (Int.gcd N D=1)))))from rfl)
 have HW1:=hid (fun(X:World)=>zJJ D 1 400 X)
 have HW2:=hid (fun(X:World)=>zJJ N (-10000000000) 10000000000 X)
 clear hbz
 by_cases h1:1<=D∧D<=400
 ·have e1:inB D 1 400=true:=by simp[inB,h1.1,h1.2]
  rw[e1]at HW1
  by_cases h3: -10000000000<=N∧N<=10000000000
  ·have e2:inB N (-10000000000) 10000000000=true:=by simp[inB,h3.1,h3.2]
   rw[e2]at HW2
   have HD:=hid (fun X=>r3divisor_c X N D (by omega) (by omega))
   obtain⟨g,hg⟩:∃g:Int,g=((Int.gcd N D:Nat):Int):=⟨_,rfl⟩
   rw[<- hg]at HD
   have HB:=hid (show zAC (N,D)=(g==1)from by
    rw[HV.out,decide_eq_true h1.1,decide_eq_true h1.2,decide_eq_true h3.1,decide_eq_true h3.2]
    simp only[Bool.true_and]
    rw[Bool.eq_iff_iff,decide_eq_true_iff]
    simp only[beq_iff_eq]
    omega)
   clear hg HV e1 e2 h1 h3
   go_enter Tryz.func156,Tryz.ntmps156
   go_wp2_with fail
   rw[<- hwz]
   clear hwz
   go_wp2_with (go_at_call 174;refine(HW1.out _).mono ?_;rintro e w2 ⟨rfl,rfl⟩;refine Stop.of ?_)
   refine Stop.go ?_
   go_wp2_with (go_at_call 174;refine(HW2.out _).mono ?_;rintro e w2 ⟨rfl,rfl⟩;refine Stop.of ?_)
   refine Stop.go ?_
   go_wp2_with (go_at_call 211;refine(HD.out _).mono ?_;rintro e w2 ⟨rfl,k2,rfl⟩;refine Stop.of ?_)
   refine Stop.go ?_
   go_wp2
   go_ret
   exact⟨zAR (by rw[HB.out]),zAV HBZ.out k2⟩
  ·have e2:inB N (-10000000000) 10000000000=false:=by
    rw[inB,Bool.and_eq_false_iff,decide_eq_false_iff_not,decide_eq_false_iff_not];omega
   rw[e2]at HW2
   have HB:=hid (show zAC (N,D)=false from by
    cases h:zAC (N,D)with
    |false=>rfl
    |true=>have:=zAO.1 h;exact absurd ⟨this.2.2.1,this.2.2.2.1⟩ h3)
   clear HV e1 e2 h1 h3
   go_enter Tryz.func156,Tryz.ntmps156
   go_wp2_with fail
   rw[<- hwz]
   clear hwz
   go_wp2_with (go_at_call 174;refine(HW1.out _).mono ?_;rintro e w2 ⟨rfl,rfl⟩;refine Stop.of ?_)
   refine Stop.go ?_
   go_wp2_with (go_at_call 174;refine(HW2.out _).mono ?_;rintro e w2 ⟨rfl,rfl⟩;refine Stop.of ?_)
   refine Stop.go ?_
   go_wp2
   go_ret
   exact⟨zAR (by rw[HB.out]),HBZ.out⟩
 ·have e1:inB D 1 400=false:=by
   rw[inB,Bool.and_eq_false_iff,decide_eq_false_iff_not,decide_eq_false_iff_not];omega
  rw[e1]at HW1
  have HB:=hid (show zAC (N,D)=false from by
   cases h:zAC (N,D)with
   |false=>rfl
   |true=>have:=zAO.1 h;exact absurd ⟨this.1,this.2.1⟩ h1)
  clear HV e1 h1 HW2
  go_enter Tryz.func156,Tryz.ntmps156
  go_wp2_with fail
  rw[<- hwz]
  clear hwz
  go_wp2_with (go_at_call 174;refine(HW1.out _).mono ?_;rintro e w2 ⟨rfl,rfl⟩;refine Stop.of ?_)
  refine Stop.go ?_
  go_wp2
  go_ret
  exact⟨zAR (by rw[HB.out]),HBZ.out⟩
theorem zFE(w:World)(a:Option Addr)(n cap:Nat)(l:List Rt)(hn:l.length=n)(hm:n<=maxLen)(H:zAX w a l):
 Calls Tryz.prog 85 #[.slice a n cap] w fun e w'=>e=.returned (.bool (l.all zAC))∧Below w.heap.size w w':=by
 have HN:=hid hn
 have HH:=hid H
 have HP:=hid (fun(X:World) (N D:Int)=>r3validR_c X N D)
 have HST:=hid (fun(k:Nat) (hk:k<l.length) (h:zAC l[k]=false)=>all_stop (p:=zAC) hk h)
 have HDN:=hid (fun(h:∀j (hj:j<l.length),zAC l[j]=true)=>all_done (p:=zAC) h)
 obtain⟨B,hB⟩:=exq (l.all zAC)
 rw[<- hB]at HST HDN⊢
 clear hn H hB
 unfold maxLen at hm
 go_enter Tryz.func85,Tryz.ntmps85
 go_wp2
 go_loopw [7] (fun i wr=>∃k:Nat,k<=n∧i=.int .i64 k∧Below w.heap.size w wr∧Hid (∀j (hj:j<l.length),j<k->zAC l[j]=true)) (fun i _=>n-(intOf i).toNat)
 case atStart=>exact⟨0,Nat.zero_le _,rfl,Below.refl _ _,hid (fun i y h=>by omega)⟩
 case round=>
  obtain⟨k,hk,rfl,hb,HNO⟩:=hrel
  by_cases hlt:k<n
  ·have hkl:k<l.length:=by rw[HN.out];exact hlt
   obtain⟨b,off,rfl,hbs,h0,h1⟩:=(HH.out.below hb) k hkl
   have HSK:=hid (HST.out k hkl)
   have HNX:=hid (fun(h:zAC l[k]=true)=>show ∀j (hj:j<l.length),j<k+1->zAC l[j]=true from fun j hj hjk=>by
    by_cases e:j=k
    ·subst e;exact h
    ·exact HNO.out j hj (by omega))
   obtain⟨⟨r1,r2⟩,hr⟩:∃r,r=l[k]'hkl:=⟨_,rfl⟩
   rw[<- hr]at h0 h1 HSK HNX
   simp only[]at h0 h1
   obtain⟨V,hV⟩:=exq (zAC (r1,r2))
   have HC:=hid (fun(X:World)=>HP.out X r1 r2)
   rw[<- hV]at HC HSK HNX
   have HB:=hid hb
   clear hr hV hkl hb HNO
   have i1:(k:Int)<(n:Int):=by omega
   go_wp2_with (go_at_call 156;refine(HC.out _).mono ?_;rintro e w1 ⟨rfl,hb1⟩;refine Stop.of ?_)
   refine Stop.go ?_
   have HB1:=hid (show Below w.heap.size w w1 from HB.out.trans ((((Below.refl _ wr).alloc (Nat.le_refl _) (.cells #[.int .i64 r1,.int .i64 r2] 29)).trans (hb1.mono (by simp))).mono HB.out.size))
   clear hb1 HC
   cases V
   ·obtain rfl:B=false:=HSK.out rfl
    go_wp2
    go_ret
    exact⟨rfl,HB1.out⟩
   ·have HX:=hid (HNX.out rfl)
    go_wp2
    exact⟨⟨k+1,by omega,by go_num,HB1.out,HX⟩,by simp[intOf];omega⟩
  ·obtain rfl:k=n:=by omega
   obtain rfl:B=true:=HDN.out fun j hj=>HNO.out j hj (by have:=HN.out;omega)
   go_wp2
   go_ret
   exact⟨rfl,hb⟩
end
section
open Go.ChangeShapes Go.WideShapes Go.ChangeAt Go.RowKit Go.Deep
def zFB(n:Int):Prop:= -9223372036854775808<=n∧n<=9223372036854775807
theorem fits64{n:Int}(h:(Lit.int .i64 n).wf=true):zFB n:=by
 simpa[zFB,Lit.wf,IntKind.min,IntKind.max,IntKind.signed,IntKind.bits]using h
theorem cell_plain{w:World}{a:Addr}{v:Value}(h:w.cell? a=some v):a=⟨a.block,a.off,none⟩∧a.block<w.heap.size:=by
 unfold World.cell? at h
 split at h
 ·rename_i c _ _ hb
  obtain⟨b,o,s⟩:=a
  cases s with
  |none=>exact⟨rfl,(Array.getElem?_eq_some_iff.1 hb).1⟩
  |some s=>simp at h
 ·simp at h
theorem add_plain(b o:Nat)(i:Nat):(Addr.mk b o none).add i=⟨b,o+i,none⟩:=by
 unfold Addr.add
 split
 ·rename_i h;rw[h];rfl
 ·rfl
section
variable {H:Type} {enc:TypeId×Value->H} {P:Program} {w:World} {base:Nat} {held:Bool}
end
end
section
open Go.ChangeShapes Go.WideShapes Go.ChangeAt Go.RowKit Go.Deep
section
variable {H:Type} {enc:TypeId×Value->H} {P:Program} {w:World} {base:Nat} {held:Bool}
theorem zJX{r:Reach}{b0:Nat}{t c:TypeId}{f0 f1:Field}{v:Value}{d:DataW H}{p:List MemPlace}(ht:P.underlying t=some (.slice c))(hs:P.underlying c=some (.struct #[f0,f1]))(hone:oneCellFields P #[f0,f1]=true)(hC:P.cellsOf c=2)
 (h0:P.underlying f0.type=some (.int .i64))(h1:P.underlying f1.type=some (.int .i64))
 (hv:Value.okWide P w r b0 t v)(h:DataW.Trod enc P w base (fun _=>true) held t v d p):∃a n cap,∃l:List Rt,v=.slice a n cap∧l.length=n∧n<=maxLen∧zAX w a l∧∀y∈l,zFB y.1∧zFB y.2:=by
 obtain⟨a,n,cap,rfl⟩:=okWide_slice ht hv
 obtain⟨fuel,hf⟩:=h
 rcases open_slice ht (by simpa[Value.cells]using hf)with⟨hcs,_⟩|⟨x,len,c',m,nn,D,Pl,hcs,_,hl,hm,hmm,_,hx⟩
 ·simp at hcs
  obtain⟨rfl,rfl,rfl⟩:=hcs
  exact⟨none,0,0,[],rfl,rfl,by decide,fun j hj=>by simp at hj,fun y hy=>by simp at hy⟩
 simp at hcs
 obtain⟨rfl,rfl,rfl⟩:=hcs
 simp only[if_true]at hmm
 obtain⟨o0,k0⟩:=hone_of hone 0 f0 rfl
 obtain⟨o1,k1⟩:=hone_of hone 1 f1 rfl
 have each:∀i,i<n->∃y:Rt,w.cell? (x.add (i*2))=some (.int .i64 y.1)∧w.cell? ((x.add (i*2)).add 1)=some (.int .i64 y.2)∧zFB y.1∧zFB y.2:=by
  intro i hi
  obtain⟨cs',hc,htr⟩:=hx i (by omega)
  rw[hC]at hc
  obtain⟨_,hlen,hcell⟩:=World.cells?_some hc
  match cs',hlen with
  | [c0,c1],_=>
    obtain⟨y0,y1,n',_,_,t0,t1⟩:=trod_struct2 hs htr
    rw[o0,k0]at t0
    rw[o1,k1]at t1
    simp at t0 t1
    obtain⟨z0,e0,_,w0⟩:=DataW.trod_int h0 t0
    obtain⟨z1,e1,_,w1⟩:=DataW.trod_int h1 t1
    simp at e0 e1
    subst e0;subst e1
    have hc0:=hcell 0 (by omega)
    rw[show(x.add (i*2)).add 0=x.add (i*2)from rfl]at hc0
    exact⟨(z0,z1),by simpa using hc0,by simpa using hcell 1 (by omega),fits64 w0,fits64 w1⟩
 haveI:Inhabited Rt:=⟨(0,0)⟩
 obtain⟨y,hy⟩:=choose_lt each
 refine⟨some x,n,cap,(List.range n).map fun i=>y i,rfl,by simp,by omega,fun j hj=>?_,fun z hz=>?_⟩
 ·have hjn:j<n:=by simpa using hj
  have hp:=cell_plain (hy 0 (by omega)).1
  simp only[Addr.add,Nat.zero_mul,if_true]at hp
  obtain⟨b,o,s⟩:=x
  have hs':s=none:=by have:=hp.1;simp at this;exact this
  subst hs'
  obtain⟨r0,r1,r2,r3⟩:=hy j hjn
  rw[add_plain]at r0 r1
  rw[add_plain]at r1
  refine⟨b,o,rfl,hp.2,?_,?_⟩<;>simp only[List.getElem_map,List.getElem_range]<;>assumption
 ·obtain⟨i,hi,rfl⟩:=List.mem_map.1 hz
  obtain⟨r0,r1,r2,r3⟩:=hy i (List.mem_range.1 hi)
  exact⟨r2,r3⟩
end
end
section
namespace dualNorms
open Go.RowKit
theorem closedF:joinedFacts Tryz.prog 5 Tryz.f5 Rows.dualNormsSpec Rows.dualNormsRow=true:=by
 unfold joinedFacts
 simp only[Bool.and_eq_true]
 repeat' apply And.intro
 all_goals (as_aux_lemma=>kernel_rfl)
end dualNorms
end
end Go.Proofs.YtlffndehhhpgjaaGreat
