/- Walks and plain laws for DualCornersRow, part 9. -/
import Derived.Test.YtlffndehhhpgjaaGreatPkDualCornersRow8
namespace Go.Proofs.YtlffndehhhpgjaaGreat
set_option linter.unusedVariables false
set_option linter.unusedSimpArgs false
set_option maxRecDepth 100000
set_option maxHeartbeats 4000000
section
open Go.RowKit
theorem minus_c(w:World)(v u:Value)(L K:Nat)(N M:Int)(h:NatV w v L N)(k:NatV w u K M)(hL:L<=1000)(hK:K<=1000)(hle:M<=N):
 Calls Tryz.prog 78 #[v,u] w fun e w'=>∃x,e=.returned x∧NatV w' x L (N-M)∧Below w.heap.size w w':=by
 obtain⟨a,n,cap,l,rfl,hn,hnL,H,hd,ht,rfl⟩:=h
 obtain⟨a2,n2,cap2,m,rfl,hn2,hnK,H2,hd2,ht2,rfl⟩:=k
 have HD2:=hid (fun(X:World) (hX:Below w.heap.size w X) (i:Nat)=>zPR X a2 n2 cap2 m hn2 (by omega) (H2.below hX) i)
 have HH:=hid (fun(X:World) (hX:Below w.heap.size w X)=>H.below hX)
 have HN:=hid hn
 have hml:=trim_le hd2 hd ht2 hle
 have HDB:=hid (fun(i:Nat)=>And.intro (zEL hd i) (zEL hd2 i))
 have HEN:=hid (fun(o:List Int) (c:Int) (ho:o.length=n) (hod:DigL o) (hc:0<=c) (hv:valN o-pw n*c=valN (l.take n)-valN (m.take n))=>show valN o=valN l-valN m from by
  rw[zEH (show l.length<=n by omega),zEH (show m.length<=n by omega)]at hv
  have hb:=hod.bnd
  rw[ho]at hb
  have hp:=zKZ n
  rcases Int.lt_or_le 0 c with h|h
  ·have:pw n*1<=pw n*c:=Int.mul_le_mul_of_nonneg_left (by omega) (by omega)
   omega
  ·obtain rfl:c=0:=by omega
   omega)
 have HST:=hid (fun(i:Nat) (o:List Int) (c r c':Int) (ho:o.length=i) (hv:valN o-pw i*c=valN (l.take i)-valN (m.take i)) (hr:r=digF l i-digF m i-c+1000000000*c')=>
  show valN (o++[r])-pw (i+1)*c'=valN (l.take (i+1))-valN (m.take (i+1))from by
  rw[zFM,ho,zEG,zEG,pw]
  subst hr
  grind)
 obtain⟨S,hS⟩:=exq (valN l-valN m)
 rw[<- hS]at HEN⊢
 clear H H2 hd hd2 ht ht2 hn hn2 hS hle hml
 go_enter Tryz.func78,Tryz.ntmps78
 go_wp2
 go_loopw [5,6,11] (fun o c i wr=>∃(t:Nat) (ol:List Int) (cc:Int),t<=n∧i=.int .i64 t∧c=.int .i64 cc∧wr.ownsRow w.heap.size 3 1 o t (ol.map (Value.int .i64))∧Below w.heap.size w wr∧0<=cc∧cc<=1∧
  Hid (ol.length=t∧DigL ol∧valN ol-pw t*cc=valN (l.take t)-valN (m.take t))) (fun _ _ i _=>n-(intOf i).toNat)
 case atStart=>exact⟨0,[],0,Nat.zero_le _,rfl,rfl,World.ownsRow_nil _ _ _ _,Below.refl _ _,by decide,by decide,hid ⟨rfl,DigL.nil,by simp[valN]⟩⟩
 case round=>
  obtain⟨t,ol,cc,ht,rfl,rfl,hown,hbk,hc0,hc1,HI⟩:=hrel
  obtain⟨va,vc,rfl⟩:=zAD hown
  by_cases hlt:t<n
  ·obtain⟨b,o,rfl,hb,hc⟩:=(HH.out wr hbk) t (by rw[HN.out];exact hlt)
   have hv:l[t]?.getD 0=digF l t:=rfl
   rw[hv]at hc
   obtain⟨⟨bx1,bx2⟩,by1,by2⟩:=HDB.out t
   have HS:=hid (fun r c' (hr:r=digF l t-digF m t-cc+1000000000*c')=>HST.out t ol cc r c' HI.out.1 HI.out.2.2 hr)
   have HDG:=hid (fun(X:World) (hX:Below w.heap.size w X)=>HD2.out X hX t)
   obtain⟨x,hx⟩:=exq (digF l t)
   obtain⟨y,hy⟩:=exq (digF m t)
   rw[<- hx]at hc bx1 bx2 HS
   rw[<- hy]at by1 by2 HS HDG
   have e1:IntKind.i64.wrap (x-y)=x-y:=IntWalk.i64_in _ (by omega)
   obtain⟨z,hz⟩:=exq (x-y-cc)
   have e2:IntKind.i64.wrap (x-y-cc)=z:=by rw[<- hz];exact IntWalk.i64_in _ (by omega)
   rw[<- hz]at HS
   have hzb: -1000000000<=z∧z<1000000000:=by omega
   have hO:=hid hown
   have HO:=hid (fun(X:World) (hX:Below wr.heap.size wr X)=>zBI hown hX)
   have HBK:=hid hbk
   have M1:=hid (show t+1<=maxLen by unfold maxLen;omega)
   have M2:=hid (show(t+1)*8<=140737488355328 by omega)
   have i1:(t:Int)<(n:Int):=by omega
   clear hown hv hx hy hz HST HEN HDB bx1 bx2 by1 by2 hO hb
   go_wp2
   go_quiet (first| (go_at_call 140;exact Calls.quiet_of_same ((HDG.out _ (by repeat (first|exact hbk|refine zAJ ?_ _))).mono fun _ _ h=>⟨h.1,h.2.symm⟩)))
   have HB2:=hid (zAJ HBK.out nq)
   have HO2:=hid (HO.out _ (zAJ (Below.refl _ _) nq))
   clear HO hbk hc HDG HH HD2 HBK
   generalize wr.drewN nq=wq at HB2 HO2⊢
   by_cases hneg:z<0
   ·obtain⟨r,hr⟩:=exq (z+1000000000)
    have e3:IntKind.i64.wrap (z+1000000000)=r:=by rw[<- hr];exact IntWalk.i64_in _ (by omega)
    have HNX:=hid (show(ol++[r]).length=t+1∧DigL (ol++[r])∧valN (ol++[r])-pw (t+1)*1=valN (l.take (t+1))-valN (m.take (t+1))from⟨by simp[HI.out.1],HI.out.2.1.snoc (by omega) (by omega),HS.out r 1 (by omega)⟩)
    have M3:=hid (Nat.le_trans HB2.out.size (zCH wq (.cells #[.int .i64 r] 3)))
    clear hr HI HS
    go_wp2_with (at_builtin;refine zAQ _ rfl (.tmp 28) (.tmp 30) 35 rfl w.heap.size 3 (.int .i64 0) 1 8 Tryz.underlying35 li_nat rfl Nat.one_pos (.slice va t vc) t _ rfl (HO2.out.alloc _) (some ⟨wq.heap.size,0,none⟩) 1 1 [.int .i64 r] rfl rfl zCD (zBT wq _ _) (zEE _) M1.out M2.out M3.out ?_;refine Stop.of ?_)
    refine Stop.go ?_
    intro a3 c3 w3 own3 g3'
    have hB3:Below w.heap.size w w3:=(HB2.out.alloc HB2.out.size _).grown g3' M3.out (fun k hk=>(HO2.out.lt k hk).1)
    go_wp2
    refine⟨⟨t+1,ol++[r],1,by omega,by go_num,rfl,?_,hB3,by decide,by decide,HNX⟩,by simp[intOf];omega⟩
    simpa using own3
   ·have HNX:=hid (show(ol++[z]).length=t+1∧DigL (ol++[z])∧valN (ol++[z])-pw (t+1)*0=valN (l.take (t+1))-valN (m.take (t+1))from⟨by simp[HI.out.1],HI.out.2.1.snoc (by omega) (by omega),HS.out z 0 (by omega)⟩)
    have M3:=hid (Nat.le_trans HB2.out.size (zCH wq (.cells #[.int .i64 z] 3)))
    clear HI HS
    go_wp2_with (at_builtin;refine zAQ _ rfl (.tmp 28) (.tmp 30) 35 rfl w.heap.size 3 (.int .i64 0) 1 8 Tryz.underlying35 li_nat rfl Nat.one_pos (.slice va t vc) t _ rfl (HO2.out.alloc _) (some ⟨wq.heap.size,0,none⟩) 1 1 [.int .i64 z] rfl rfl zCD (zBT wq _ _) (zEE _) M1.out M2.out M3.out ?_;refine Stop.of ?_)
    refine Stop.go ?_
    intro a3 c3 w3 own3 g3'
    have hB3:Below w.heap.size w w3:=(HB2.out.alloc HB2.out.size _).grown g3' M3.out (fun k hk=>(HO2.out.lt k hk).1)
    go_wp2
    refine⟨⟨t+1,ol++[z],0,by omega,by go_num,rfl,?_,hB3,by decide,by decide,HNX⟩,by simp[intOf];omega⟩
    simpa using own3
  ·obtain rfl:t=n:=by omega
   obtain⟨i1,i2,i3⟩:=HI.out
   have hS:=HEN.out ol cc i1 i2 hc0 i3
   obtain⟨a5,c5,e5,hI5,_⟩:=zCS hown i1
   cases e5
   have HT:=hid (trimmed_c wr va t vc ol i1 (by omega) (own_cap hown) hI5 i2)
   rw[hS]at HT
   have HBK:=hid hbk
   clear hown hbk HI i1 i2 i3 hI5 hS HST HEN
   go_wp2_with (go_at_call 141;refine HT.out.mono ?_;rintro e w2 ⟨v2,rfl,hv2,hb2⟩;refine Stop.of ?_)
   refine Stop.go ?_
   have HF:=hid (hv2.le hnL)
   have HB2:=hid (zAA HBK.out hb2)
   clear hv2 hb2
   go_wp2
   go_ret
   exact⟨_,rfl,HF.out,HB2.out⟩
end
section
open Go.RowKit
theorem sp_madeN(w:World)(k:Nat):zBQ (w.alloc (.cells (madeCells #[.int .i64 0] k) 3)) w.heap.size (List.replicate k 0):=by
 have e:madeCells #[Value.int .i64 0] k=((List.replicate k (0:Int)).map (Value.int .i64)).toArray:=by
  apply Array.toList_inj.1
  rw[toList_madeCells_one];simp
 exact⟨[],by rw[World.alloc_heap_new,e,List.append_nil]⟩
theorem valN_rep(k:Nat):valN (List.replicate k 0)=0:=by
 induction k with
 |zero=>rfl
 |succ k ih=>rw[List.replicate_succ,valN,ih];rfl
theorem digF_rep(k i:Nat):digF (List.replicate k 0) i=0:=by
 unfold digF
 rcases Nat.lt_or_ge i k with h|h
 ·rw[List.getElem?_eq_getElem (by simpa using h)];simp
 ·rw[List.getElem?_eq_none (by simpa using h)];rfl
theorem digF_set{l:List Int}{k i:Nat}{d:Int}(h:k≠i):digF (l.set k d) i=digF l i:=by
 unfold digF;rw[List.getElem?_set_ne h]
theorem mul_dig{x y:Int}(hx:0<=x∧x<1000000000)(hy:0<=y∧y<1000000000):0<=x*y∧x*y<=999999998000000001:=by
 refine⟨Int.mul_nonneg hx.1 hy.1,?_⟩
 have h1:x*y<=999999999*y:=Int.mul_le_mul_of_nonneg_right (by omega) hy.1
 omega
theorem zLM(w:World)(v u:Value)(L K:Nat)(N M:Int)(h:NatV w v L N)(k:NatV w u K M)(hL:L<=400)(hK:K<=400):
 Calls Tryz.prog 75 #[v,u] w fun e w'=>∃x,e=.returned x∧NatV w' x (L+K) (N*M)∧Below w.heap.size w w':=by
 obtain⟨a,n,cap,l,rfl,hn,hnL,H,hd,ht,rfl⟩:=h
 obtain⟨a2,n2,cap2,m,rfl,hn2,hnK,H2,hd2,ht2,rfl⟩:=k
 have HD2:=hid (fun(X:World) (hX:Below w.heap.size w X) (i:Nat)=>zPR X a2 n2 cap2 m hn2 (by omega) (H2.below hX) i)
 have HH:=hid (fun(X:World) (hX:Below w.heap.size w X)=>H.below hX)
 have HN:=hid hn
 have HDX:=hid (fun(i:Nat)=>zEL hd i)
 have HDY:=hid (fun(i:Nat)=>zEL hd2 i)
 have HZY:=hid (show digF m n2=0 from by unfold digF;rw[List.getElem?_eq_none (by omega)];rfl)
 have HTM:=hid (fun j (hj:n2<=j)=>show valN (m.take j)=valN m from zEH (by omega))
 have HTL:=hid (show valN (l.take n)=valN l from zEH (by omega))
 have HTS:=hid (fun i=>zEG l i)
 have HTS2:=hid (fun i=>zEG m i)
 obtain⟨P,hP⟩:=exq (valN l*valN m)
 rw[<- hP]
 have HP:=hid hP
 obtain⟨Z,hZ⟩:=exq (n+n2)
 have hZ4:Z<=800:=by omega
 have hZL:Z<=L+K:=by omega
 have hmk:∀w,(Instr.makeSlice 35 (.int .i64 ((n:Int)+(n2:Int))) (.int .i64 ((n:Int)+(n2:Int)))).run Tryz.prog w=.ok (.slice (some ⟨w.heap.size,0,none⟩) Z Z) (w.alloc (.cells (madeCells #[.int .i64 0] Z) 3)):=
  fun w=>by rw[show(n:Int)+(n2:Int)=((Z:Nat):Int)by omega];exact run_make_row' 35 3 (.int .i64 0) 8 Tryz.underlying35 li_nat rfl .i64 .i64 Z (by omega) (by omega) w
 obtain⟨g,hg⟩:=exq (w.heap.size)
 obtain⟨wa,hwa⟩:=exq (w.alloc (.cells (madeCells #[.int .i64 0] Z) 3))
 have hba:Below w.heap.size w wa:=by rw[hwa];exact(Below.refl _ _).alloc (Nat.le_refl _) _
 have hsp:zBQ wa g (List.replicate Z 0):=by rw[hwa,hg];exact sp_madeN w Z
 have HSP:=hid hsp
 have HBA:=hid hba
 have HG:=hid (show w.heap.size<=g by omega)
 have HZ:=hid hZ
 clear hZ
 clear H H2 hd hd2 ht ht2 hn hn2 hP hsp hba
 go_enter Tryz.func75,Tryz.ntmps75
 go_wp2_with fail
 rw[<- hg,<- hwa]
 clear hg hwa hmk
 go_loopw [19] (fun i wr=>∃(t:Nat) (o:List Int),t<=n∧i=.int .i64 t∧zBQ wr g o∧Below w.heap.size w wr∧
  Hid (o.length=Z∧DigL o∧valN o=valN (l.take t)*valN m∧∀q,t+n2<=q->digF o q=0)) (fun i _=>n-(intOf i).toNat)
 case atStart=>exact⟨0,_,Nat.zero_le _,rfl,HSP.out,HBA.out,hid ⟨by simp,fun d h=>by rw[(List.mem_replicate.1 h).2];decide,by rw[valN_rep];simp[valN],fun q _=>digF_rep _ _⟩⟩
 case round=>
  obtain⟨t,o,ht,rfl,hsp,hbk,HI⟩:=hrel
  by_cases hlt:t<n
  ·obtain⟨b,oo,rfl,hb,hc⟩:=(HH.out wr hbk) t (by rw[HN.out];exact hlt)
   have hv:l[t]?.getD 0=digF l t:=rfl
   rw[hv]at hc
   have HX:=hid (HDX.out t)
   have HTX:=hid (HTS.out t)
   obtain⟨x,hx⟩:=exq (digF l t)
   rw[<- hx]at hc HX HTX
   have i1:(t:Int)<(n:Int):=by omega
   have HSP1:=hid hsp
   have HBK1:=hid hbk
   obtain⟨wo,hwo⟩:=exq (wr)
   subst hwo
   clear hv hx hsp hbk hb HSP HBA
   go_wp2
   clear hc
   go_loopw [8,9] (fun c j wr=>∃(s:Nat) (o2:List Int) (cc:Int),s<=n2+1∧j=.int .i64 s∧c=.int .i64 cc∧0<=cc∧cc<1000000000∧zBQ wr g o2∧Below w.heap.size w wr∧
    Hid (o2.length=Z∧DigL o2∧valN o2+pw (t+s)*cc=valN (l.take t)*valN m+pw t*(x*valN (m.take s))∧(n2<s->cc=0)∧∀q,(s<=n2->t+n2<=q->digF o2 q=0)∧(t+n2+1<=q->digF o2 q=0))) (fun _ j _=>n2+2-(intOf j).toNat)
   case atStart=>exact⟨0,o,0,Nat.zero_le _,rfl,rfl,by decide,by decide,HSP1.out,HBK1.out,hid ⟨HI.out.1,HI.out.2.1,by rw[HI.out.2.2.1];simp[valN],fun h=>by omega,fun q=>⟨fun _ h=>HI.out.2.2.2 q h,fun h=>HI.out.2.2.2 q (by omega)⟩⟩⟩
   case round=>
    obtain⟨s,o2,cc,hs,rfl,rfl,hc0,hc1,hsp,hbk,HJ⟩:=hrel
    by_cases hgo:s<n2∨0<cc
    ·have hsn:s<=n2:=by
      rcases hgo with h|h
      ·omega
      ·rcases Nat.lt_or_ge n2 s with c|c
       ·have:=HJ.out.2.2.2.1 c;omega
       ·exact c
     have htz:t+s<Z:=by have:=HZ.out;omega
     have hcell:=hsp.cell (j:=t+s) (by rw[HJ.out.1];exact htz)
     have hvd:o2[t+s]?.getD 0=digF o2 (t+s):=rfl
     rw[hvd]at hcell
     have hdb:=zEL HJ.out.2.1 (t+s)
     have hyb:=HDY.out s
     have hmb:=mul_dig HX.out hyb
     have hdz:s=n2->digF o2 (t+s)=0:=fun e=>(HJ.out.2.2.2.2 (t+s)).1 hsn (by omega)
     have hyz:s=n2->digF m s=0:=fun e=>by rw[e];exact HZY.out
     have HDG:=hid (fun(X:World) (hX:Below w.heap.size w X)=>HD2.out X hX s)
     have HST:=hid (fun(r q:Int) (hrq:digF o2 (t+s)+x*digF m s+cc=r+1000000000*q) (hr0:0<=r) (hr1:r<1000000000) (hqz:s=n2->q=0)=>
      show(o2.set (t+s) r).length=Z∧DigL (o2.set (t+s) r)∧valN (o2.set (t+s) r)+pw (t+(s+1))*q=valN (l.take t)*valN m+pw t*(x*valN (m.take (s+1)))∧(n2<s+1->q=0)∧∀p,(s+1<=n2->t+n2<=p->digF (o2.set (t+s) r) p=0)∧(t+n2+1<=p->digF (o2.set (t+s) r) p=0)from by
      obtain⟨j1,j2,j3,j4,j5⟩:=HJ.out
      refine⟨by simp[j1],j2.set hr0 hr1,?_,fun h=>hqz (by omega),fun p=>⟨fun h1 h2=>?_,fun h=>?_⟩⟩
      ·rw[set_val (by rw[j1];exact htz),<- Nat.add_assoc,pw,HTS2.out s]
       have e1:=pw_add t s
       generalize digF o2 (t+s)=dd at hrq⊢
       generalize digF m s=y at hrq⊢
       generalize valN o2=A at j3⊢
       generalize valN (l.take t)*valN m=B at j3⊢
       generalize valN (m.take s)=C at j3⊢
       rw[e1]at j3⊢
       generalize pw t=p1 at j3⊢
       generalize pw s=p2 at j3⊢
       have e2:cc=r+1000000000*q-dd-x*y:=by omega
       subst e2
       grind
      ·rw[digF_set (by omega)];exact(j5 p).1 (by omega) h2
      ·rw[digF_set (by omega)];exact(j5 p).2 h)
     obtain⟨d,hdd⟩:=exq (digF o2 (t+s))
     obtain⟨y,hy⟩:=exq (digF m s)
     rw[<- hdd]at hcell hdb hdz HST
     rw[<- hy]at hyb hmb hyz HST HDG
     have hj0:0<=d+x*y+cc:=by omega
     have et:(d+x*y+cc).tmod 1000000000=(d+x*y+cc)%1000000000:=Int.tmod_eq_emod_of_nonneg hj0
     have ed:(d+x*y+cc).tdiv 1000000000=(d+x*y+cc)/1000000000:=Int.tdiv_eq_ediv_of_nonneg hj0
     have hxz:s=n2->x*y=0:=fun e=>by rw[hyz e];simp
     obtain⟨xy,hxy⟩:=exq (x*y)
     rw[<- hxy]at hmb hj0 et ed HST hxz
     obtain⟨z,hz⟩:=exq (d+xy+cc)
     rw[<- hz]at hj0 et ed HST
     obtain⟨r,hr⟩:=exq (z%1000000000)
     obtain⟨q,hq⟩:=exq (z/1000000000)
     rw[<- hr]at et
     rw[<- hq]at ed
     have HNX:=hid (HST.out r q (by omega) (by omega) (by omega) (fun e=>by have:=hdz e;have:=hxz e;omega))
     have hq0:0<=q∧q<1000000000:=by omega
     have e1:IntKind.i64.wrap (x*y)=xy:=by rw[<- hxy];exact IntWalk.i64_in _ (by omega)
     have e2:IntKind.i64.wrap (d+xy)=d+xy:=IntWalk.i64_in _ (by omega)
     have e3:IntKind.i64.wrap (d+xy+cc)=z:=by rw[<- hz];exact IntWalk.i64_in _ (by omega)
     have e5:((t:Int)+(s:Int)).toNat=t+s:=by omega
     have i3:(0:Int)<=(t:Int)+(s:Int):=by omega
     have hfz:=hsp.frozen (t+s)
     have i2:(t:Int)+(s:Int)<(Z:Int):=by omega
     have HSS:=hid (fun(X:World) (hX:zBQ X g o2)=>hX.set (t+s) (by rw[HJ.out.1];exact htz) r)
     have HSP2:=hid hsp
     have HBK:=hid hbk
     have hgo2:s<n2∨(¬s<n2∧0<cc):=by omega
     clear hvd hdb hyb hmb hdz hyz hxz hdd hy hxy hz hr hq hj0 HST HJ hgo htz hsp
     rcases hgo2 with g1|⟨g1,g2⟩
     all_goals
      go_wp2
      go_quiet (first| (go_at_call 140;exact Calls.quiet_of_same ((HDG.out _ (by repeat (first|exact HBK.out|refine zAJ ?_ _))).mono fun _ _ h=>⟨h.1,h.2.symm⟩)))
      have hspd:=HSP2.out.keep (w':=wr.drewN nq) rfl
      have HSPD:=hid hspd
      have hcd:(wr.drewN nq).cell? ⟨g,t+s,none⟩=some (.int .i64 d):=hcell
      have hfd:(wr.drewN nq).frozen? ⟨g,t+s,none⟩=false:=hfz
      have HST2:=hid (HSS.out _ hspd)
      have HBE:=hid (zAG (zAJ HBK.out nq) HG.out (t+s) (.int .i64 r))
      clear hspd hcell hfz HSS HDG HSP2 HBK
      generalize wr.drewN nq=wq at HSPD hcd hfd HST2 HBE⊢
      go_wp2
      refine⟨⟨s+1,_,q,by omega,by go_num,rfl,hq0.1,hq0.2,HST2.out,HBE.out,HNX⟩,by simp[intOf];omega⟩
    ·have g1:¬s<n2:=by omega
     have g2:¬0<cc:=by omega
     obtain rfl:cc=0:=by omega
     obtain⟨j1,j2,j3,j4,j5⟩:=HJ.out
     have HNO:=hid (show o2.length=Z∧DigL o2∧valN o2=valN (l.take (t+1))*valN m∧∀q,t+1+n2<=q->digF o2 q=0 from by
      refine⟨j1,j2,?_,fun q hq=>(j5 q).2 (by omega)⟩
      rw[HTM.out s (by omega)]at j3
      rw[HTX.out,Int.add_mul]
      have:pw t*(x*valN m)=pw t*x*valN m:=by rw[Int.mul_assoc]
      omega)
     have HSP2:=hid hsp
     have HBK:=hid hbk
     clear HJ j1 j2 j3 j4 j5 hsp hbk hgo
     go_wp2
     refine⟨⟨t+1,o2,by omega,by go_num,HSP2.out,HBK.out,HNO⟩,by simp[intOf];omega⟩
  ·obtain rfl:t=n:=by omega
   obtain⟨j1,j2,j3,j4⟩:=HI.out
   rw[HTL.out,<- HP.out]at j3
   have HT:=hid (trimmed_c wr (some ⟨g,0,none⟩) Z Z o j1 (by omega) (Nat.le_refl _) hsp.ints j2)
   rw[j3]at HT
   have HBK:=hid hbk
   clear HI j1 j2 j3 j4 hsp hbk
   go_wp2_with (go_at_call 141;refine HT.out.mono ?_;rintro e w2 ⟨v2,rfl,hv2,hb2⟩;refine Stop.of ?_)
   refine Stop.go ?_
   have HF:=hid (hv2.le hZL)
   have HB2:=hid (zAA HBK.out hb2)
   clear hv2 hb2
   go_wp2
   go_ret
   exact⟨_,rfl,HF.out,HB2.out⟩
end
section
open Go.RowKit
theorem NatV.slice{w:World}{v:Value}{L:Nat}{N:Int}(h:NatV w v L N):∃a n cap,v=.slice a n cap:=by
 obtain⟨a,n,cap,l,h1,_⟩:=h
 exact⟨a,n,cap,h1⟩
def RatQ(w:World)(v:Value)(L:Nat)(s:Bool)(N D:Int):Prop:=∃a n c b m e,v=.agg #[.bool s,.slice a n c,.slice b m e]∧NatV w (.slice a n c) L N∧NatV w (.slice b m e) L D
theorem RatQ.below{w w':World}{v:Value}{L:Nat}{s:Bool}{N D:Int}(h:RatQ w v L s N D)(hb:Below w.heap.size w w'):RatQ w' v L s N D:=by
 obtain⟨a,n,c,b,m,e,h1,h2,h3⟩:=h
 exact⟨a,n,c,b,m,e,h1,h2.below hb,h3.below hb⟩
theorem RatQ.le{w:World}{v:Value}{L K:Nat}{s:Bool}{N D:Int}(h:RatQ w v L s N D)(hk:L<=K):RatQ w v K s N D:=by
 obtain⟨a,n,c,b,m,e,h1,h2,h3⟩:=h
 exact⟨a,n,c,b,m,e,h1,h2.le hk,h3.le hk⟩
theorem NatV.keeps3{w:World}{v0:Value}{L:Nat}{N:Int}{g:Nat}{u v z:Value}(h:NatV w v0 L N)(hg:∃c,w.heap[g]? =some (.cells c 37 (0,0))∧∀x:Int,∀o:Nat,c[o]? ≠some (.int .i64 x)):NatV (((w.setCell ⟨g,0,none⟩ u).setCell ⟨g,1,none⟩ v).setCell ⟨g,2,none⟩ z) v0 L N:=by
 obtain⟨a,n,cap,l,h1,h2,h3,h4,h5⟩:=h
 refine⟨a,n,cap,l,h1,h2,h3,fun j hj=>?_,h5⟩
 obtain⟨b,o,e,hb,hc⟩:=h4 j hj
 refine⟨b,o,e,by simpa using hb,?_⟩
 have hne:b≠g:=by
  rintro rfl
  obtain⟨c,hc1,hc2⟩:=hg
  simp[World.cell?,hc1]at hc
  exact hc2 _ _ hc
 rw[World.cell?_setCell_far _ _ _ _ (fun h=>hne h.symm),World.cell?_setCell_far _ _ _ _ (fun h=>hne h.symm),World.cell?_setCell_far _ _ _ _ (fun h=>hne h.symm)]
 exact hc
def zFS(x y:Bool×Int×Int):Bool×Int×Int:=
 if x.1=y.1 then(x.1,x.2.1*y.2.2+y.2.1*x.2.2,x.2.2*y.2.2)
 else if y.2.1*x.2.2<=x.2.1*y.2.2 then(x.1,x.2.1*y.2.2-y.2.1*x.2.2,x.2.2*y.2.2)
 else(y.1,y.2.1*x.2.2-x.2.1*y.2.2,x.2.2*y.2.2)
theorem cmpI_ge{V U:Int}:(0<=cmpI V U)↔U<=V:=by unfold cmpI;split<;>(try split)<;>omega
theorem zOW(w:World)(v u:Value)(L K:Nat)(s t:Bool)(N D M E:Int)(h:RatQ w v L s N D)(k:RatQ w u K t M E)(hL:L<=100)(hK:K<=100):
 Calls Tryz.prog 24 #[v,u] w fun e w'=>∃x,e=.returned x∧RatQ w' x (L+K+1) (zFS (s,N,D) (t,M,E)).1 (zFS (s,N,D) (t,M,E)).2.1 (zFS (s,N,D) (t,M,E)).2.2∧Below w.heap.size w w':=by
 obtain⟨na,nn,nc,da,dn,dc,rfl,hN,hD⟩:=h
 obtain⟨ma,mn,mc,ea,en,ec,rfl,hM,hE⟩:=k
 obtain⟨s0,hs⟩:=exq (w.heap.size)
 obtain⟨wa,hwa⟩:=exq (((w.alloc (.cells #[.bool s,.slice na nn nc,.slice da dn dc] 37)).alloc (.cells #[.bool t,.slice ma mn mc,.slice ea en ec] 37)).alloc (.cells #[.bool false,.slice none 0 0,.slice none 0 0] 37))
 have hba:Below w.heap.size w wa:=by rw[hwa];exact(((Below.refl _ _).alloc (Nat.le_refl _) _).alloc (by simp) _).alloc (by simp;omega) _
 have q0:wa.heap[s0+2]? =some (.cells #[.bool false,.slice none 0 0,.slice none 0 0] 37 (0,0)):=by
  have:=World.alloc_heap_new ((w.alloc (.cells #[.bool s,.slice na nn nc,.slice da dn dc] 37)).alloc (.cells #[.bool t,.slice ma mn mc,.slice ea en ec] 37)) (.cells #[.bool false,.slice none 0 0,.slice none 0 0] 37)
  rw[hwa,hs]
  simpa using this
 have hs1:s0+2<wa.heap.size:=(Array.getElem?_eq_some_iff.1 q0).1
 have hc:∀o v,(#[Value.bool s,.slice na nn nc,.slice da dn dc]:Array Value)[o]? =some v->wa.cell? ⟨s0,o,none⟩=some v:=fun o v h=>by
  rw[hwa,hs,World.cell?_alloc_past _ _ _ (by simp;omega),World.cell?_alloc_past _ _ _ (by simp),World.cell?_alloc_at _ _ _ _ rfl];exact h
 have hc2:∀o v,(#[Value.bool t,.slice ma mn mc,.slice ea en ec]:Array Value)[o]? =some v->wa.cell? ⟨s0+1,o,none⟩=some v:=fun o v h=>by
  rw[hwa,hs,World.cell?_alloc_past _ _ _ (by simp),World.cell?_alloc_at _ _ _ _ (by simp)];exact h
 have HS:=hid (fun(Y:World) (hY:Below wa.heap.size wa Y)=>show Y.cell? ⟨s0,0,none⟩=some (.bool s)∧Y.cell? ⟨s0,1,none⟩=some (.slice na nn nc)∧Y.cell? ⟨s0,2,none⟩=some (.slice da dn dc)∧Y.cell? ⟨s0+1,0,none⟩=some (.bool t)∧Y.cell? ⟨s0+1,1,none⟩=some (.slice ma mn mc)∧Y.cell? ⟨s0+1,2,none⟩=some (.slice ea en ec)from by
  have k0:∀o,Y.cell? ⟨s0,o,none⟩=wa.cell? ⟨s0,o,none⟩:=fun o=>hY.cell (p:=⟨s0,o,none⟩) (by show s0<_;omega)
  have k1:∀o,Y.cell? ⟨s0+1,o,none⟩=wa.cell? ⟨s0+1,o,none⟩:=fun o=>hY.cell (p:=⟨s0+1,o,none⟩) (by show s0+1<_;omega)
  exact⟨(k0 0).trans (hc 0 _ rfl),(k0 1).trans (hc 1 _ rfl),(k0 2).trans (hc 2 _ rfl),(k1 0).trans (hc2 0 _ rfl),(k1 1).trans (hc2 1 _ rfl),(k1 2).trans (hc2 2 _ rfl)⟩)
 have HR:=hid (fun(Y:World) (hY:Below wa.heap.size wa Y)=>show Y.cell? ⟨s0+2,0,none⟩=some (.bool false)∧Y.cell? ⟨s0+2,1,none⟩=some (.slice none 0 0)∧Y.cell? ⟨s0+2,2,none⟩=some (.slice none 0 0)∧(∀o,Y.frozen? ⟨s0+2,o,none⟩=false)∧s0+2<Y.heap.size from by
  have h1:=(hY.block (s0+2) hs1).trans q0
  exact⟨by simp[World.cell?,h1],by simp[World.cell?,h1],by simp[World.cell?,h1],fun o=>by simp[World.frozen?,h1],(Array.getElem?_eq_some_iff.1 h1).1⟩)
 have HFIN:=hid (fun(Y:World) (hY:Below wa.heap.size wa Y) (x y z:Value)=>show Below w.heap.size w (((Y.setCell ⟨s0+2,0,none⟩ x).setCell ⟨s0+2,1,none⟩ y).setCell ⟨s0+2,2,none⟩ z)from
  zAG (zAG (zAG (zAA hba hY) (by omega) 0 x) (by omega) 1 y) (by omega) 2 z)
 have HNN:=hid (fun(Y:World) (hY:Below wa.heap.size wa Y)=>And.intro (hN.below (zAA hba hY)) (And.intro (hD.below (zAA hba hY)) (And.intro (hM.below (zAA hba hY)) (hE.below (zAA hba hY)))))
 have HNG:=hid (fun(Y:World) (hY:Below wa.heap.size wa Y)=>show ∃c,Y.heap[s0+2]? =some (.cells c 37 (0,0))∧∀x:Int,∀o:Nat,c[o]? ≠some (.int .i64 x)from
  ⟨_,(hY.block (s0+2) hs1).trans q0,fun x o=>by match o with|0=>simp|1=>simp|2=>simp|o+3=>simp⟩)
 clear hba q0 hs1 hc hc2 hN hD hM hE
 go_enter Tryz.func24,Tryz.ntmps24
 go_wp2_with fail
 rw[<- hs,<- hwa]
 clear hs hwa
 refine zAF (fun j' X=>wAll j'=true->X.cell? ⟨s0,0,none⟩=some (.bool s)∧X.cell? ⟨s0,1,none⟩=some (.slice na nn nc)∧X.cell? ⟨s0,2,none⟩=some (.slice da dn dc)∧X.cell? ⟨s0+1,0,none⟩=some (.bool t)∧X.cell? ⟨s0+1,1,none⟩=some (.slice ma mn mc)∧X.cell? ⟨s0+1,2,none⟩=some (.slice ea en ec)) (by kernel_rfl) ?_
 have hbd:Below wa.heap.size wa wa.drew:=(Below.refl _ _).drew
 generalize wa.drew=wd at hbd⊢
 refine AnyT.tD (i:=0) (v:=.pointer (some ⟨s0,1,none⟩)) rfl rfl (by rintro w' ⟨y1,y2,y3,y4,y5,y6⟩;go_simp) (HS.out _ hbd) ?_;go_frame
 refine AnyT.tD (i:=1) (v:=.slice na nn nc) rfl rfl (by rintro w' ⟨y1,y2,y3,y4,y5,y6⟩;go_simp) (HS.out _ hbd) ?_;go_frame
 refine AnyT.tD (i:=2) (v:=.pointer (some ⟨s0+1,2,none⟩)) rfl rfl (by rintro w' ⟨y1,y2,y3,y4,y5,y6⟩;go_simp) (HS.out _ hbd) ?_;go_frame
 refine AnyT.tD (i:=3) (v:=.slice ea en ec) rfl rfl (by rintro w' ⟨y1,y2,y3,y4,y5,y6⟩;go_simp) (HS.out _ hbd) ?_;go_frame
 refine AnyT.tD (i:=5) (v:=.pointer (some ⟨s0+1,1,none⟩)) rfl rfl (by rintro w' ⟨y1,y2,y3,y4,y5,y6⟩;go_simp) (HS.out _ hbd) ?_;go_frame
 refine AnyT.tD (i:=6) (v:=.slice ma mn mc) rfl rfl (by rintro w' ⟨y1,y2,y3,y4,y5,y6⟩;go_simp) (HS.out _ hbd) ?_;go_frame
 refine AnyT.tD (i:=7) (v:=.pointer (some ⟨s0,2,none⟩)) rfl rfl (by rintro w' ⟨y1,y2,y3,y4,y5,y6⟩;go_simp) (HS.out _ hbd) ?_;go_frame
 refine AnyT.tD (i:=8) (v:=.slice da dn dc) rfl rfl (by rintro w' ⟨y1,y2,y3,y4,y5,y6⟩;go_simp) (HS.out _ hbd) ?_;go_frame
 refine AnyT.tD (i:=10) (v:=.pointer (some ⟨s0,2,none⟩)) rfl rfl (by rintro w' ⟨y1,y2,y3,y4,y5,y6⟩;go_simp) (HS.out _ hbd) ?_;go_frame
 refine AnyT.tD (i:=11) (v:=.slice da dn dc) rfl rfl (by rintro w' ⟨y1,y2,y3,y4,y5,y6⟩;go_simp) (HS.out _ hbd) ?_;go_frame
 refine AnyT.tD (i:=12) (v:=.pointer (some ⟨s0+1,2,none⟩)) rfl rfl (by rintro w' ⟨y1,y2,y3,y4,y5,y6⟩;go_simp) (HS.out _ hbd) ?_;go_frame
 refine AnyT.tD (i:=13) (v:=.slice ea en ec) rfl rfl (by rintro w' ⟨y1,y2,y3,y4,y5,y6⟩;go_simp) (HS.out _ hbd) ?_;go_frame
 refine AnyT.nx (i:=4) rfl ?_
 go_wp2_with (go_at_call 75;refine(zLM _ _ _ L K _ _ (HNN.out _ hbd).1 (HNN.out _ hbd).2.2.2 (by omega) (by omega)).mono ?_;rintro e w1 ⟨vw1,rfl,hvw1,hbw1⟩;refine Stop.of ?_)
 refine Stop.go ?_
 obtain⟨aw1,nw1,cw1,rfl⟩:=hvw1.slice
 have HVw1:=hid hvw1
 have HB1:=hid (zAA hbd hbw1)
 have HBXw1:=hid hbw1
 clear hvw1 hbw1
 go_wp2
 refine⟨fun _=>HS.out _ HB1.out,?_⟩
 refine AnyT.nx (i:=9) rfl ?_
 go_wp2_with (go_at_call 75;refine(zLM _ _ _ K L _ _ (HNN.out _ HB1.out).2.2.1 (HNN.out _ HB1.out).2.1 (by omega) (by omega)).mono ?_;rintro e w2 ⟨vw2,rfl,hvw2,hbw2⟩;refine Stop.of ?_)
 refine Stop.go ?_
 obtain⟨aw2,nw2,cw2,rfl⟩:=hvw2.slice
 have HVw2:=hid hvw2
 have HB2:=hid (zAA HB1.out hbw2)
 have HBXw2:=hid hbw2
 clear hvw2 hbw2
 go_wp2
 refine⟨fun _=>HS.out _ HB2.out,?_⟩
 refine AnyT.nx (i:=14) rfl ?_
 go_wp2_with (go_at_call 75;refine(zLM _ _ _ L K _ _ (HNN.out _ HB2.out).2.1 (HNN.out _ HB2.out).2.2.2 (by omega) (by omega)).mono ?_;rintro e w3 ⟨vw3,rfl,hvw3,hbw3⟩;refine Stop.of ?_)
 refine Stop.go ?_
 obtain⟨aw3,nw3,cw3,rfl⟩:=hvw3.slice
 have HVw3:=hid hvw3
 have HB3:=hid (zAA HB2.out hbw3)
 have HBXw3:=hid hbw3
 clear hvw3 hbw3
 go_wp2
 refine⟨fun _=>HS.out _ HB3.out,?_⟩
 refine AnyT.tD (i:=15) (v:=.slice aw1 nw1 cw1) rfl rfl (by rintro w' ⟨y1,y2,y3,y4,y5,y6⟩;go_simp) (HS.out _ HB3.out) ?_;go_frame
 refine AnyT.tD (i:=16) (v:=.slice aw2 nw2 cw2) rfl rfl (by rintro w' ⟨y1,y2,y3,y4,y5,y6⟩;go_simp) (HS.out _ HB3.out) ?_;go_frame
 refine AnyT.tD (i:=17) (v:=.slice aw3 nw3 cw3) rfl rfl (by rintro w' ⟨y1,y2,y3,y4,y5,y6⟩;go_simp) (HS.out _ HB3.out) ?_;go_frame
 refine AnyT.done (by kernel_rfl) ?_ _
 have HNE:=hid ((HVw1.out.below HBXw2.out).below HBXw3.out)
 have HMD:=hid (((HVw2.out.below HBXw3.out)).le (show K+L<=L+K by omega))
 have HDE:=hid HVw3.out
 obtain⟨y1,y2,y3,y4,y5,y6⟩:=HS.out _ HB3.out
 clear HVw1 HVw2 HVw3 HBXw2 HBXw1 HBXw3 HB1 HB2 hbd
 have HB:=hid HB3.out
 clear HB3 y1 y2 y3 y4 y5 y6
 by_cases hst:s=t
 ·subst hst
  have HQ:=hid (show zFS (s,N,D) (s,M,E)=(s,N*E+M*D,D*E)from if_pos rfl)
  have hsb:(s==s)=true:=by simp
  obtain⟨y1,y2,y3,y4,y5,y6⟩:=HS.out _ HB.out
  go_wp2
  refine zAF (fun j' X=>decide (j'<=6)=true->X.cell? ⟨s0,0,none⟩=some (.bool s)) (by kernel_rfl) ?_
  obtain⟨wq,hwq⟩:=exq (w3.drew)
  have hbq:Below wa.heap.size wa wq:=by rw[hwq];exact HB.out.drew
  have hb0:Below w3.heap.size w3 wq:=by rw[hwq];exact(Below.refl _ _).drew
  rw[<- hwq]
  clear hwq
  refine AnyT.tD (i:=0) (v:=.pointer (some ⟨s0,0,none⟩)) rfl rfl (by rintro w' y1;go_simp) ((HS.out _ hbq).1) ?_;go_frame
  refine AnyT.tD (i:=1) (v:=.bool s) rfl rfl (by rintro w' y1;go_simp) ((HS.out _ hbq).1) ?_;go_frame
  refine AnyT.tD (i:=2) (v:=.slice aw1 nw1 cw1) rfl rfl (by rintro w' y1;go_simp) ((HS.out _ hbq).1) ?_;go_frame
  refine AnyT.tD (i:=3) (v:=.slice aw2 nw2 cw2) rfl rfl (by rintro w' y1;go_simp) ((HS.out _ hbq).1) ?_;go_frame
  refine AnyT.tD (i:=5) (v:=.slice aw3 nw3 cw3) rfl rfl (by rintro w' y1;go_simp) ((HS.out _ hbq).1) ?_;go_frame
  refine AnyT.nx (i:=4) rfl ?_
  go_wp2_with (go_at_call 76;refine(plus_c _ _ _ (L+K) (L+K) _ _ (HNE.out.below hb0) (HMD.out.below hb0) (by omega) (by omega)).mono ?_;rintro e w5 ⟨v5,rfl,hv5,hb5⟩;refine Stop.of ?_)
  refine Stop.go ?_
  obtain⟨a5,n5,c5,rfl⟩:=hv5.slice
  have HV5:=hid hv5
  have HB5:=hid (zAA hbq hb5)
  have HDE5:=hid ((HDE.out.below hb0).below hb5)
  obtain⟨x0,x1,x2,hfz,hlt⟩:=HR.out _ HB5.out
  have f0:=hfz 0
  have f1:=hfz 1
  have f2:=hfz 2
  have HFI:=hid (HFIN.out _ HB5.out (.bool s) (.slice a5 n5 c5) (.slice aw3 nw3 cw3))
  have HKN:=hid (hv5.keeps3 (g:=s0+2) (u:=.bool s) (v:=.slice a5 n5 c5) (z:=.slice aw3 nw3 cw3) (HNG.out _ HB5.out))
  have HKD:=hid (HDE5.out.keeps3 (g:=s0+2) (u:=.bool s) (v:=.slice a5 n5 c5) (z:=.slice aw3 nw3 cw3) (HNG.out _ HB5.out))
  clear hv5 hb5 hfz hb0
  go_wp2
  refine⟨fun _=>(HS.out _ HB5.out).1,?_⟩
  refine AnyT.tD (i:=6) (v:=.agg #[.bool s,.slice a5 n5 c5,.slice aw3 nw3 cw3]) rfl rfl (by rintro w' y1;go_simp) ((HS.out _ HB5.out).1) ?_;go_frame
  refine AnyT.nx (i:=7) rfl ?_
  go_wp2
  refine⟨fun h=>absurd h (by decide),?_⟩
  refine AnyT.done (by kernel_rfl) ?_ _
  go_wp2
  refine bodyPost_ret (v:=.agg #[.bool s,.slice a5 n5 c5,.slice aw3 nw3 cw3]) ?_ rfl ⟨_,rfl,?_,HFI.out⟩
  ·simp[results,Tryz.results24,go_sem,x0,x1,x2,f0,f1,f2,hlt]
  ·rw[HQ.out];exact⟨_,_,_,_,_,_,rfl,HKN.out.le (by omega),HKD.out.le (by omega)⟩
 ·have hsb:(s==t)=false:=by simpa using hst
  have HOR:=hid (order_c w3 _ _ (L+K) (L+K) _ _ HNE.out HMD.out (by omega) (by omega))
  obtain⟨y1,y2,y3,y4,y5,y6⟩:=HS.out _ HB.out
  obtain⟨cv,hcv⟩:=exq (cmpI (N*E) (M*D))
  rw[<- hcv]at HOR
  have hge:0<=cv↔M*D<=N*E:=by rw[hcv];exact cmpI_ge
  have HGE:=hid hge
  have HST:=hid hst
  clear hcv hge hst
  go_wp2_with (go_at_call 77;refine HOR.out.mono ?_;rintro e w4 ⟨rfl,hb4⟩;refine Stop.of ?_)
  refine Stop.go ?_
  have HNE4:=hid (HNE.out.below hb4)
  have HMD4:=hid (HMD.out.below hb4)
  have HDE4:=hid (HDE.out.below hb4)
  have HB4:=hid (zAA HB.out hb4)
  clear HNE HMD HDE HB HOR hb4
  have HB:=HB4
  have HDE:=HDE4
  clear HB4 HDE4
  obtain⟨y1,y2,y3,y4,y5,y6⟩:=HS.out _ HB.out
  by_cases hcc:0<=cv
  ·have hle:=HGE.out.1 hcc
   have HQ:=hid (show zFS (s,N,D) (t,M,E)=(s,N*E-M*D,D*E)from by unfold zFS;rw[if_neg HST.out,if_pos hle])
   have HLE:=hid hle
   clear hle
   go_wp2
   refine zAF (fun j' X=>decide (j'<=6)=true->X.cell? ⟨s0,0,none⟩=some (.bool s)) (by kernel_rfl) ?_
   obtain⟨wq,hwq⟩:=exq (w4.drew)
   have hbq:Below wa.heap.size wa wq:=by rw[hwq];exact HB.out.drew
   have hb0:Below w4.heap.size w4 wq:=by rw[hwq];exact(Below.refl _ _).drew
   rw[<- hwq]
   clear hwq
   refine AnyT.tD (i:=0) (v:=.pointer (some ⟨s0,0,none⟩)) rfl rfl (by rintro w' y1;go_simp) ((HS.out _ hbq).1) ?_;go_frame
   refine AnyT.tD (i:=1) (v:=.bool s) rfl rfl (by rintro w' y1;go_simp) ((HS.out _ hbq).1) ?_;go_frame
   refine AnyT.tD (i:=2) (v:=.slice aw1 nw1 cw1) rfl rfl (by rintro w' y1;go_simp) ((HS.out _ hbq).1) ?_;go_frame
   refine AnyT.tD (i:=3) (v:=.slice aw2 nw2 cw2) rfl rfl (by rintro w' y1;go_simp) ((HS.out _ hbq).1) ?_;go_frame
   refine AnyT.tD (i:=5) (v:=.slice aw3 nw3 cw3) rfl rfl (by rintro w' y1;go_simp) ((HS.out _ hbq).1) ?_;go_frame
   refine AnyT.nx (i:=4) rfl ?_
   go_wp2_with (go_at_call 78;refine(minus_c _ _ _ (L+K) (L+K) _ _ (HNE4.out.below hb0) (HMD4.out.below hb0) (by omega) (by omega) HLE.out).mono ?_;rintro e w5 ⟨v5,rfl,hv5,hb5⟩;refine Stop.of ?_)
   refine Stop.go ?_
   obtain⟨a5,n5,c5,rfl⟩:=hv5.slice
   have HV5:=hid hv5
   have HB5:=hid (zAA hbq hb5)
   have HDE5:=hid ((HDE.out.below hb0).below hb5)
   obtain⟨x0,x1,x2,hfz,hlt⟩:=HR.out _ HB5.out
   have f0:=hfz 0
   have f1:=hfz 1
   have f2:=hfz 2
   have HFI:=hid (HFIN.out _ HB5.out (.bool s) (.slice a5 n5 c5) (.slice aw3 nw3 cw3))
   have HKN:=hid (hv5.keeps3 (g:=s0+2) (u:=.bool s) (v:=.slice a5 n5 c5) (z:=.slice aw3 nw3 cw3) (HNG.out _ HB5.out))
   have HKD:=hid (HDE5.out.keeps3 (g:=s0+2) (u:=.bool s) (v:=.slice a5 n5 c5) (z:=.slice aw3 nw3 cw3) (HNG.out _ HB5.out))
   clear hv5 hb5 hfz hb0
   go_wp2
   refine⟨fun _=>(HS.out _ HB5.out).1,?_⟩
   refine AnyT.tD (i:=6) (v:=.agg #[.bool s,.slice a5 n5 c5,.slice aw3 nw3 cw3]) rfl rfl (by rintro w' y1;go_simp) ((HS.out _ HB5.out).1) ?_;go_frame
   refine AnyT.nx (i:=7) rfl ?_
   go_wp2
   refine⟨fun h=>absurd h (by decide),?_⟩
   refine AnyT.done (by kernel_rfl) ?_ _
   go_wp2
   refine bodyPost_ret (v:=.agg #[.bool s,.slice a5 n5 c5,.slice aw3 nw3 cw3]) ?_ rfl ⟨_,rfl,?_,HFI.out⟩
   ·simp[results,Tryz.results24,go_sem,x0,x1,x2,f0,f1,f2,hlt]
   ·rw[HQ.out];exact⟨_,_,_,_,_,_,rfl,HKN.out.le (by omega),HKD.out.le (by omega)⟩
  ·have hle:¬M*D<=N*E:=fun h=>hcc (HGE.out.2 h)
   have HQ:=hid (show zFS (s,N,D) (t,M,E)=(t,M*D-N*E,D*E)from by unfold zFS;rw[if_neg HST.out,if_neg hle])
   have HLE:=hid hle
   clear hle
   go_wp2
   refine zAF (fun j' X=>decide (j'<=6)=true->X.cell? ⟨s0+1,0,none⟩=some (.bool t)) (by kernel_rfl) ?_
   obtain⟨wq,hwq⟩:=exq (w4.drew)
   have hbq:Below wa.heap.size wa wq:=by rw[hwq];exact HB.out.drew
   have hb0:Below w4.heap.size w4 wq:=by rw[hwq];exact(Below.refl _ _).drew
   rw[<- hwq]
   clear hwq
   refine AnyT.tD (i:=0) (v:=.pointer (some ⟨s0+1,0,none⟩)) rfl rfl (by rintro w' y1;go_simp) ((HS.out _ hbq).2.2.2.1) ?_;go_frame
   refine AnyT.tD (i:=1) (v:=.bool t) rfl rfl (by rintro w' y1;go_simp) ((HS.out _ hbq).2.2.2.1) ?_;go_frame
   refine AnyT.tD (i:=2) (v:=.slice aw2 nw2 cw2) rfl rfl (by rintro w' y1;go_simp) ((HS.out _ hbq).2.2.2.1) ?_;go_frame
   refine AnyT.tD (i:=3) (v:=.slice aw1 nw1 cw1) rfl rfl (by rintro w' y1;go_simp) ((HS.out _ hbq).2.2.2.1) ?_;go_frame
   refine AnyT.tD (i:=5) (v:=.slice aw3 nw3 cw3) rfl rfl (by rintro w' y1;go_simp) ((HS.out _ hbq).2.2.2.1) ?_;go_frame
   refine AnyT.nx (i:=4) rfl ?_
   go_wp2_with (go_at_call 78;refine(minus_c _ _ _ (L+K) (L+K) _ _ (HMD4.out.below hb0) (HNE4.out.below hb0) (by omega) (by omega) (by have:=HLE.out;omega)).mono ?_;rintro e w5 ⟨v5,rfl,hv5,hb5⟩;refine Stop.of ?_)
   refine Stop.go ?_
   obtain⟨a5,n5,c5,rfl⟩:=hv5.slice
   have HV5:=hid hv5
   have HB5:=hid (zAA hbq hb5)
   have HDE5:=hid ((HDE.out.below hb0).below hb5)
   obtain⟨x0,x1,x2,hfz,hlt⟩:=HR.out _ HB5.out
   have f0:=hfz 0
   have f1:=hfz 1
   have f2:=hfz 2
   have HFI:=hid (HFIN.out _ HB5.out (.bool t) (.slice a5 n5 c5) (.slice aw3 nw3 cw3))
   have HKN:=hid (hv5.keeps3 (g:=s0+2) (u:=.bool t) (v:=.slice a5 n5 c5) (z:=.slice aw3 nw3 cw3) (HNG.out _ HB5.out))
   have HKD:=hid (HDE5.out.keeps3 (g:=s0+2) (u:=.bool t) (v:=.slice a5 n5 c5) (z:=.slice aw3 nw3 cw3) (HNG.out _ HB5.out))
   clear hv5 hb5 hfz hb0
   go_wp2
   refine⟨fun _=>(HS.out _ HB5.out).2.2.2.1,?_⟩
   refine AnyT.tD (i:=6) (v:=.agg #[.bool t,.slice a5 n5 c5,.slice aw3 nw3 cw3]) rfl rfl (by rintro w' y1;go_simp) ((HS.out _ HB5.out).2.2.2.1) ?_;go_frame
   refine AnyT.nx (i:=7) rfl ?_
   go_wp2
   refine⟨fun h=>absurd h (by decide),?_⟩
   refine AnyT.done (by kernel_rfl) ?_ _
   go_wp2
   refine bodyPost_ret (v:=.agg #[.bool t,.slice a5 n5 c5,.slice aw3 nw3 cw3]) ?_ rfl ⟨_,rfl,?_,HFI.out⟩
   ·simp[results,Tryz.results24,go_sem,x0,x1,x2,f0,f1,f2,hlt]
   ·rw[HQ.out];exact⟨_,_,_,_,_,_,rfl,HKN.out.le (by omega),HKD.out.le (by omega)⟩
end
section
open Go.RowKit
theorem exact_c(w:World)(N D:Int)(hN: -4611686018427387904<=N∧N<=4611686018427387904)(hD:0<=D∧D<=4611686018427387904):
 Calls Tryz.prog 22 #[.agg #[.int .i64 N,.int .i64 D]] w fun e w'=>∃x,e=.returned x∧RatQ w' x 3 (decide (N<0)) (N.natAbs:Nat) D∧Below w.heap.size w w':=by
 obtain⟨s0,hs⟩:=exq (w.heap.size)
 obtain⟨wa,hwa⟩:=exq ((w.alloc (.cells #[.int .i64 N,.int .i64 D] 29)).alloc (.cells #[.bool false,.slice none 0 0,.slice none 0 0] 37))
 have hba:Below w.heap.size w wa:=by rw[hwa];exact((Below.refl _ _).alloc (Nat.le_refl _) _).alloc (by simp) _
 have q0:wa.heap[s0+1]? =some (.cells #[.bool false,.slice none 0 0,.slice none 0 0] 37 (0,0)):=by
  have:=World.alloc_heap_new (w.alloc (.cells #[.int .i64 N,.int .i64 D] 29)) (.cells #[.bool false,.slice none 0 0,.slice none 0 0] 37)
  rw[hwa,hs]
  simpa using this
 have hs1:s0+1<wa.heap.size:=(Array.getElem?_eq_some_iff.1 q0).1
 have hc:∀o v,(#[Value.int .i64 N,.int .i64 D]:Array Value)[o]? =some v->wa.cell? ⟨s0,o,none⟩=some v:=fun o v h=>by
  rw[hwa,hs,World.cell?_alloc_past _ _ _ (by simp),World.cell?_alloc_at _ _ _ _ rfl];exact h
 have HS:=hid (fun(Y:World) (hY:Below wa.heap.size wa Y)=>show Y.cell? ⟨s0,0,none⟩=some (.int .i64 N)∧Y.cell? ⟨s0,1,none⟩=some (.int .i64 D)from by
  have k0:∀o,Y.cell? ⟨s0,o,none⟩=wa.cell? ⟨s0,o,none⟩:=fun o=>hY.cell (p:=⟨s0,o,none⟩) (by show s0<_;omega)
  exact⟨(k0 0).trans (hc 0 _ rfl),(k0 1).trans (hc 1 _ rfl)⟩)
 have HR:=hid (fun(Y:World) (hY:Below wa.heap.size wa Y)=>show Y.cell? ⟨s0+1,0,none⟩=some (.bool false)∧Y.cell? ⟨s0+1,1,none⟩=some (.slice none 0 0)∧Y.cell? ⟨s0+1,2,none⟩=some (.slice none 0 0)∧(∀o,Y.frozen? ⟨s0+1,o,none⟩=false)∧s0+1<Y.heap.size from by
  have h1:=(hY.block (s0+1) hs1).trans q0
  exact⟨by simp[World.cell?,h1],by simp[World.cell?,h1],by simp[World.cell?,h1],fun o=>by simp[World.frozen?,h1],(Array.getElem?_eq_some_iff.1 h1).1⟩)
 have HFIN:=hid (fun(Y:World) (hY:Below wa.heap.size wa Y) (x y z:Value)=>show Below w.heap.size w (((Y.setCell ⟨s0+1,0,none⟩ x).setCell ⟨s0+1,1,none⟩ y).setCell ⟨s0+1,2,none⟩ z)from
  zAG (zAG (zAG (zAA hba hY) (by omega) 0 x) (by omega) 1 y) (by omega) 2 z)
 have HNG:=hid (fun(Y:World) (hY:Below wa.heap.size wa Y)=>show ∃c,Y.heap[s0+1]? =some (.cells c 37 (0,0))∧∀x:Int,∀o:Nat,c[o]? ≠some (.int .i64 x)from
  ⟨_,(hY.block (s0+1) hs1).trans q0,fun x o=>by match o with|0=>simp|1=>simp|2=>simp|o+3=>simp⟩)
 obtain⟨b,hb⟩:=exq (decide (N<0))
 obtain⟨m,hm⟩:∃m:Int,m=(N.natAbs:Nat):=⟨_,rfl⟩
 rw[<- hb,<- hm]
 have hb2:=hb.symm
 have HM1:=hid (fun X=>natOf_c X m (by omega) (by omega))
 have HM2:=hid (fun X=>natOf_c X D hD.1 (by omega))
 have hng:IntKind.i64.wrap (-N)= -N:=IntWalk.i64_in _ (by omega)
 have hmx:(if-N<=N then N else-N)=m:=by split<;>omega
 have hmx2:(if N<= -N then-N else N)=m:=by split<;>omega
 have hmx3:(if N< -N then-N else N)=m:=by split<;>omega
 clear hba q0 hs1 hc hb hm
 go_enter Tryz.func22,Tryz.ntmps22
 go_wp2_with fail
 rw[<- hs,<- hwa]
 clear hs hwa
 refine zAF (fun j' X=>decide (j'<=13)=true->X.cell? ⟨s0,0,none⟩=some (.int .i64 N)∧X.cell? ⟨s0,1,none⟩=some (.int .i64 D)) (by kernel_rfl) ?_
 have hbd:Below wa.heap.size wa wa.drew:=(Below.refl _ _).drew
 generalize wa.drew=wd at hbd⊢
 refine AnyT.tD (i:=0) (v:=.pointer (some ⟨s0,0,none⟩)) rfl rfl (by rintro w' ⟨y1,y2⟩;go_simp) (HS.out _ hbd) ?_;go_frame
 refine AnyT.tD (i:=1) (v:=.int .i64 N) rfl rfl (by rintro w' ⟨y1,y2⟩;go_simp) (HS.out _ hbd) ?_;go_frame
 refine AnyT.tD (i:=2) (v:=.bool b) rfl rfl (by rintro w' ⟨y1,y2⟩;go_simp) (HS.out _ hbd) ?_;go_frame
 refine AnyT.tD (i:=3) (v:=.pointer (some ⟨s0,0,none⟩)) rfl rfl (by rintro w' ⟨y1,y2⟩;go_simp) (HS.out _ hbd) ?_;go_frame
 refine AnyT.tD (i:=4) (v:=.int .i64 N) rfl rfl (by rintro w' ⟨y1,y2⟩;go_simp) (HS.out _ hbd) ?_;go_frame
 refine AnyT.tD (i:=5) (v:=.pointer (some ⟨s0,0,none⟩)) rfl rfl (by rintro w' ⟨y1,y2⟩;go_simp) (HS.out _ hbd) ?_;go_frame
 refine AnyT.tD (i:=6) (v:=.int .i64 N) rfl rfl (by rintro w' ⟨y1,y2⟩;go_simp) (HS.out _ hbd) ?_;go_frame
 refine AnyT.tD (i:=7) (v:=.int .i64 (-N)) rfl rfl (by rintro w' ⟨y1,y2⟩;go_simp) (HS.out _ hbd) ?_;go_frame
 refine AnyT.tD (i:=10) (v:=.pointer (some ⟨s0,1,none⟩)) rfl rfl (by rintro w' ⟨y1,y2⟩;go_simp) (HS.out _ hbd) ?_;go_frame
 refine AnyT.tD (i:=11) (v:=.int .i64 D) rfl rfl (by rintro w' ⟨y1,y2⟩;go_simp) (HS.out _ hbd) ?_;go_frame
 refine AnyT.nx (i:=8) rfl ?_
 go_wp2
 refine⟨fun _=>HS.out _ hbd,?_⟩
 refine AnyT.nx (i:=9) rfl ?_
 go_wp2_with (go_at_call 74;refine(HM1.out _).mono ?_;rintro e w1 ⟨v1,rfl,hv1,hb1⟩;refine Stop.of ?_)
 refine Stop.go ?_
 obtain⟨a1,n1,c1,rfl⟩:=hv1.slice
 have HV1:=hid hv1
 have HB1:=hid (zAA hbd hb1)
 clear hv1 hb1 hmx hmx2 hmx3 hng
 go_wp2
 refine⟨fun _=>HS.out _ HB1.out,?_⟩
 refine AnyT.nx (i:=12) rfl ?_
 go_wp2_with (go_at_call 74;refine(HM2.out _).mono ?_;rintro e w2 ⟨v2,rfl,hv2,hb2'⟩;refine Stop.of ?_)
 refine Stop.go ?_
 obtain⟨a2,n2,c2,rfl⟩:=hv2.slice
 have HB2:=hid (zAA HB1.out hb2')
 have hv1':=HV1.out.below hb2'
 have HK1:=hid (hv1'.keeps3 (g:=s0+1) (u:=.bool b) (v:=.slice a1 n1 c1) (z:=.slice a2 n2 c2) (HNG.out _ HB2.out))
 have HK2:=hid (hv2.keeps3 (g:=s0+1) (u:=.bool b) (v:=.slice a1 n1 c1) (z:=.slice a2 n2 c2) (HNG.out _ HB2.out))
 obtain⟨x0,x1,x2,hfz,hlt⟩:=HR.out _ HB2.out
 have f0:=hfz 0
 have f1:=hfz 1
 have f2:=hfz 2
 have HFI:=hid (HFIN.out _ HB2.out (.bool b) (.slice a1 n1 c1) (.slice a2 n2 c2))
 clear hv1' hv2 hb2' hfz HV1
 go_wp2
 refine⟨fun _=>HS.out _ HB2.out,?_⟩
 refine AnyT.tD (i:=13) (v:=.agg #[.bool b,.slice a1 n1 c1,.slice a2 n2 c2]) rfl rfl (by rintro w' ⟨y1,y2⟩;go_simp) (HS.out _ HB2.out) ?_;go_frame
 refine AnyT.nx (i:=14) rfl ?_
 go_wp2
 refine⟨fun h=>absurd h (by decide),?_⟩
 refine AnyT.done (by kernel_rfl) ?_ _
 go_wp2
 refine bodyPost_ret (v:=.agg #[.bool b,.slice a1 n1 c1,.slice a2 n2 c2]) ?_ rfl ⟨_,rfl,⟨_,_,_,_,_,_,rfl,HK1.out,HK2.out⟩,HFI.out⟩
 simp[results,Tryz.results22,go_sem,x0,x1,x2,f0,f1,f2,hlt]
theorem nwhole_c(w:World)(n:Int)(hN: -4611686018427387904<=n∧n<=4611686018427387904):
 Calls Tryz.prog 91 #[.int .i64 n] w fun e w'=>∃x,e=.returned x∧RatQ w' x 3 (decide (n<0)) (n.natAbs:Nat) 1∧Below w.heap.size w w':=by
 obtain⟨s0,hs⟩:=exq (w.heap.size)
 obtain⟨wa,hwa⟩:=exq (w.alloc (.cells #[.bool false,.slice none 0 0,.slice none 0 0] 37))
 have hba:Below w.heap.size w wa:=by rw[hwa];exact(Below.refl _ _).alloc (Nat.le_refl _) _
 have q0:wa.heap[s0]? =some (.cells #[.bool false,.slice none 0 0,.slice none 0 0] 37 (0,0)):=by
  rw[hwa,hs];exact World.alloc_heap_new w _
 have hs1:s0<wa.heap.size:=(Array.getElem?_eq_some_iff.1 q0).1
 have HR:=hid (fun(Y:World) (hY:Below wa.heap.size wa Y)=>show Y.cell? ⟨s0,0,none⟩=some (.bool false)∧Y.cell? ⟨s0,1,none⟩=some (.slice none 0 0)∧Y.cell? ⟨s0,2,none⟩=some (.slice none 0 0)∧(∀o,Y.frozen? ⟨s0,o,none⟩=false)∧s0<Y.heap.size from by
  have h1:=(hY.block s0 hs1).trans q0
  exact⟨by simp[World.cell?,h1],by simp[World.cell?,h1],by simp[World.cell?,h1],fun o=>by simp[World.frozen?,h1],(Array.getElem?_eq_some_iff.1 h1).1⟩)
 have HFIN:=hid (fun(Y:World) (hY:Below wa.heap.size wa Y) (x y z:Value)=>show Below w.heap.size w (((Y.setCell ⟨s0,0,none⟩ x).setCell ⟨s0,1,none⟩ y).setCell ⟨s0,2,none⟩ z)from
  zAG (zAG (zAG (zAA hba hY) (by omega) 0 x) (by omega) 1 y) (by omega) 2 z)
 have HNG:=hid (fun(Y:World) (hY:Below wa.heap.size wa Y)=>show ∃c,Y.heap[s0]? =some (.cells c 37 (0,0))∧∀x:Int,∀o:Nat,c[o]? ≠some (.int .i64 x)from
  ⟨_,(hY.block s0 hs1).trans q0,fun x o=>by match o with|0=>simp|1=>simp|2=>simp|o+3=>simp⟩)
 have HE:=hid (exact_c wa n 1 hN (by decide))
 obtain⟨b,hb⟩:=exq (decide (n<0))
 obtain⟨m,hm⟩:∃m:Int,m=(n.natAbs:Nat):=⟨_,rfl⟩
 rw[<- hb,<- hm]at HE⊢
 clear hba q0 hs1 hb hm
 go_enter Tryz.func91,Tryz.ntmps91
 go_wp2_with fail
 rw[<- hs,<- hwa]
 clear hs hwa
 go_wp2_with (go_at_call 22;refine HE.out.mono ?_;rintro e w2 ⟨v2,rfl,⟨a1,n1,c1,a2,n2,c2,rfl,hv1,hv2⟩,hb2⟩;refine Stop.of ?_)
 refine Stop.go ?_
 have HK1:=hid (hv1.keeps3 (g:=s0) (u:=.bool b) (v:=.slice a1 n1 c1) (z:=.slice a2 n2 c2) (HNG.out _ hb2))
 have HK2:=hid (hv2.keeps3 (g:=s0) (u:=.bool b) (v:=.slice a1 n1 c1) (z:=.slice a2 n2 c2) (HNG.out _ hb2))
 obtain⟨x0,x1,x2,hfz,hlt⟩:=HR.out _ hb2
 have f0:=hfz 0
 have f1:=hfz 1
 have f2:=hfz 2
 have HFI:=hid (HFIN.out _ hb2 (.bool b) (.slice a1 n1 c1) (.slice a2 n2 c2))
 clear hv1 hv2 hb2 hfz
 go_wp2
 refine bodyPost_ret (v:=.agg #[.bool b,.slice a1 n1 c1,.slice a2 n2 c2]) ?_ rfl ⟨_,rfl,⟨_,_,_,_,_,_,rfl,HK1.out,HK2.out⟩,HFI.out⟩
 simp[results,Tryz.results91,go_sem,x0,x1,x2,f0,f1,f2,hlt]
end
section
section
open Go.RowKit Go.Lib
def zAB(x:List Rt)(k:Nat):Rt:=x[k]?.getD (0,1)
def sumR(r:List Int)(x:List Rt):Nat->Int×Int
 |0=>(0,1)
 |k+1=>if vec r k≠0 then((sumR r x k).1*(zAB x k).2+(sumR r x k).2*((zAB x k).1*vec r k),(sumR r x k).2*(zAB x k).2)else sumR r x k
theorem zOT{r:List Int}{x:List Rt}(h1:∀k,-1<=vec r k∧vec r k<=1)(hx:∀k,1<=(zAB x k).2∧(zAB x k).2<=400∧ -10000000000<=(zAB x k).1∧(zAB x k).1<=10000000000):
 ∀k:Nat,(sumR r x k).1.natAbs<=k*10000000000*400 ^ k∧1<=(sumR r x k).2∧(sumR r x k).2.natAbs<=400 ^ k
 |0=>by simp[sumR]
 |k+1=>by
  obtain⟨i1,i2,i3⟩:=zOT h1 hx k
  obtain⟨x1,x2,x3,x4⟩:=hx k
  have hv:=h1 k
  have hp:400 ^ (k+1)=400 ^ k*400:=Nat.pow_succ ..
  have hmono:400 ^ k<=400 ^ (k+1):=by rw[hp];omega
  rw[sumR]
  by_cases h0:vec r k≠0
  ·rw[if_pos h0]
   simp only[]
   generalize sumR r x k=s at i1 i2 i3
   generalize zAB x k=q at x1 x2 x3 x4
   obtain⟨s1,s2⟩:=s
   obtain⟨q1,q2⟩:=q
   simp only[]at*
   have e1:(s1*q2).natAbs<=k*10000000000*400 ^ k*400:=by
    rw[Int.natAbs_mul];exact Nat.mul_le_mul i1 (by omega)
   have e2:(s2*(q1*vec r k)).natAbs<=400 ^ k*10000000000:=by
    rw[Int.natAbs_mul]
    refine Nat.mul_le_mul i3 ?_
    rw[Int.natAbs_mul]
    have:q1.natAbs*(vec r k).natAbs<=10000000000*1:=Nat.mul_le_mul (by omega) (by omega)
    omega
   have e3:(s2*q2).natAbs<=400 ^ k*400:=by
    rw[Int.natAbs_mul];exact Nat.mul_le_mul i3 (by omega)
   refine⟨?_,?_,by rw[hp];exact e3⟩
   ·have e4:(k+1)*10000000000*400 ^ (k+1)=k*10000000000*400 ^ k*400+400 ^ k*10000000000*400:=by
     rw[hp]
     generalize 400 ^ k=P
     grind
    rw[e4]
    have e5:400 ^ k*10000000000<=400 ^ k*10000000000*400:=by omega
    omega
   ·have:=Int.mul_pos (show(0:Int)<s2 by omega) (show(0:Int)<q2 by omega)
    omega
  ·rw[if_neg h0]
   refine⟨?_,i2,Nat.le_trans i3 hmono⟩
   refine Nat.le_trans i1 ?_
   exact Nat.mul_le_mul (by omega) hmono
theorem zNR{r:List Int}{x:List Rt}(h1:∀k,-1<=vec r k∧vec r k<=1)(hx:∀k,1<=(zAB x k).2∧(zAB x k).2<=400∧ -10000000000<=(zAB x k).1∧(zAB x k).1<=10000000000){k:Nat}(hk:k<=10):
 (sumR r x k).1.natAbs<=10485760000000000000000000000000000000∧1<=(sumR r x k).2∧(sumR r x k).2.natAbs<=104857600000000000000000000:=by
 obtain⟨i1,i2,i3⟩:=zOT h1 hx k
 have hp:400 ^ k<=400 ^ 10:=Nat.pow_le_pow_right (by decide) hk
 have e10:(400:Nat) ^ 10=104857600000000000000000000:=by decide+kernel
 rw[e10]at hp
 refine⟨?_,i2,by omega⟩
 refine Nat.le_trans i1 ?_
 have:k*10000000000*400 ^ k<=10*10000000000*104857600000000000000000000:=Nat.mul_le_mul (by omega) hp
 omega
theorem sumR_bnd9{r:List Int}{x:List Rt}(h1:∀k,-1<=vec r k∧vec r k<=1)(hx:∀k,1<=(zAB x k).2∧(zAB x k).2<=400∧ -10000000000<=(zAB x k).1∧(zAB x k).1<=10000000000){k:Nat}(hk:k<=9):
 (sumR r x k).1.natAbs*400<=10485760000000000000000000000000000000∧(sumR r x k).2.natAbs*400<=104857600000000000000000000:=by
 obtain⟨i1,i2,i3⟩:=zOT h1 hx k
 have hp:400 ^ k<=400 ^ 9:=Nat.pow_le_pow_right (by decide) hk
 have e9:(400:Nat) ^ 9=262144000000000000000000:=by decide+kernel
 rw[e9]at hp
 refine⟨?_,by omega⟩
 have:k*10000000000*400 ^ k<=9*10000000000*262144000000000000000000:=Nat.mul_le_mul (by omega) hp
 omega
def zCF(M:Mask)(x:List Rt)(y:List Int):Bool:=
 decide (rdE M y=0)&&(decide (x.length=zAC M)&&(x.all zAH&&decide (∀i,i<M.length->(sumR (M[i]?.getD []) x (zAC M)).1=(sumR (M[i]?.getD []) x (zAC M)).2*vec y i)))
theorem mk_no1{M:Mask}{x:List Rt}{y:List Int}(h:rdE M y≠0):zCF M x y=false:=by unfold zCF;rw[decide_eq_false h];rfl
theorem mk_no2{M:Mask}{x:List Rt}{y:List Int}(h:x.length≠zAC M):zCF M x y=false:=by unfold zCF;rw[decide_eq_false h];simp
theorem mk_no3{M:Mask}{x:List Rt}{y:List Int}(h:x.all zAH=false):zCF M x y=false:=by unfold zCF;rw[h];simp
theorem mk_no4{M:Mask}{x:List Rt}{y:List Int}{i:Nat}(hi:i<M.length)(h:(sumR (M[i]?.getD []) x (zAC M)).1≠(sumR (M[i]?.getD []) x (zAC M)).2*vec y i):zCF M x y=false:=by
 have:decide (∀i,i<M.length->(sumR (M[i]?.getD []) x (zAC M)).1=(sumR (M[i]?.getD []) x (zAC M)).2*vec y i)=false:=decide_eq_false fun hh=>h (hh i hi)
 unfold zCF;rw[this];simp
theorem mk_yes{M:Mask}{x:List Rt}{y:List Int}(h1:rdE M y=0)(h2:x.length=zAC M)(h3:x.all zAH=true)(h4:∀i,i<M.length->(sumR (M[i]?.getD []) x (zAC M)).1=(sumR (M[i]?.getD []) x (zAC M)).2*vec y i):zCF M x y=true:=by
 unfold zCF;rw[decide_eq_true h1,decide_eq_true h2,h3,decide_eq_true h4];rfl
def SumB(w:World)(g:Nat)(n d:Int):Prop:=w.heap[g]? =some (.cells #[.int .i64 (n/18446744073709551616),.int .u64 (n%18446744073709551616),.int .i64 (d/18446744073709551616),.int .u64 (d%18446744073709551616)] 102 (0,0))
theorem SumB.lt{w:World}{g:Nat}{n d:Int}(h:SumB w g n d):g<w.heap.size:=(Array.getElem?_eq_some_iff.1 h).1
theorem SumB.keep{w w':World}{g:Nat}{n d:Int}(h:SumB w g n d)(hk:w'.heap[g]? =w.heap[g]?):SumB w' g n d:=hk.trans h
theorem SumB.cells{w:World}{g:Nat}{n d n1 n2 d1 d2:Int}(h:SumB w g n d)(pn:WP n n1 n2)(pd:WP d d1 d2):w.cell? ⟨g,0,none⟩=some (.int .i64 n1)∧w.cell? ⟨g,1,none⟩=some (.int .u64 n2)∧w.cell? ⟨g,2,none⟩=some (.int .i64 d1)∧w.cell? ⟨g,3,none⟩=some (.int .u64 d2)∧∀o,w.frozen? ⟨g,o,none⟩=false:=by
 unfold SumB at h
 rw[pn.1,pn.2,pd.1,pd.2]
 exact⟨by simp[World.cell?,h],by simp[World.cell?,h],by simp[World.cell?,h],by simp[World.cell?,h],fun o=>by simp[World.frozen?,h]⟩
theorem SumB.set{w:World}{g:Nat}{n d m e a b c f:Int}(h:SumB w g n d)(pm:WP m a b)(pe:WP e c f):SumB ((((w.setCell ⟨g,0,none⟩ (.int .i64 a)).setCell ⟨g,1,none⟩ (.int .u64 b)).setCell ⟨g,2,none⟩ (.int .i64 c)).setCell ⟨g,3,none⟩ (.int .u64 f)) g m e:=by
 unfold SumB
 rw[zAP (zAP (zAP (zAP h 0 _) 1 _) 2 _) 3 _,pm.1,pm.2,pe.1,pe.2]
 simp
theorem SumB.made(w:World){n d a b c f:Int}(pn:WP n a b)(pd:WP d c f):SumB (w.alloc (.cells #[.int .i64 a,.int .u64 b,.int .i64 c,.int .u64 f] 102)) w.heap.size n d:=by
 unfold SumB
 rw[World.alloc_heap_new,pn.1,pn.2,pd.1,pd.2]
theorem lmakes_c(w:World)(a a2 a3:Option Addr)(n cap n2 cap2 n3 cap3:Nat)(M:Mask)(x:List Rt)(y:List Int)(hn:M.length=n)(hn2:x.length=n2)(hn3:y.length=n3)(hm:n<=maxLen)(hm2:n2<=maxLen)(hm3:n3<=maxLen)(H:zAN w a M)(H2:zBE w a2 x)(H3:zAI w a3 y):
 Calls Tryz.prog 84 #[.slice a n cap,.slice a2 n2 cap2,.slice a3 n3 cap3] w fun e w'=>e=.returned (.bool (zCF M x y))∧Below w.heap.size w w':=by
 have HRD:=hid (lreading_c w a a3 n cap n3 cap3 M y hn hn3 hm hm3 H H3)
 have HN1:=hid (mk_no1 (M:=M) (x:=x) (y:=y))
 have HN2:=hid (mk_no2 (M:=M) (x:=x) (y:=y))
 have HN3:=hid (mk_no3 (M:=M) (x:=x) (y:=y))
 obtain⟨B,hB⟩:=exq (zCF M x y)
 rw[<- hB]at HN1 HN2 HN3⊢
 by_cases h0:rdE M y=0
 rotate_left
 ·rw[decide_eq_false h0]at HRD
  obtain rfl:B=false:=HN1.out h0
  clear hn hn2 hn3 H H2 H3 hB h0 HN2 HN3
  go_enter Tryz.func84,Tryz.ntmps84
  go_wp2_with (go_at_call 153;refine HRD.out.mono ?_;rintro e w1 ⟨rfl,hb1⟩)
  go_ret
  exact⟨rfl,hb1⟩
 rw[decide_eq_true h0]at HRD
 obtain⟨hok,hyl,hmil⟩:=zHV h0
 obtain⟨hM,h1,h6,hc1,hc10⟩:=zDJ hok
 obtain⟨b,off,ra,rc,rfl,hb,hc⟩:=zEA H (by omega)
 have HCC:=hid (fun(X:World) (hX:Below w.heap.size w X)=>show X.cell? ⟨b,off,none⟩=some (.slice ra (zAC M) rc)from(hX.cell (p:=⟨b,off,none⟩) hb).trans hc)
 have HN4:=hid (fun i (hi:i<M.length) h=>mk_no4 (x:=x) (y:=y) hi h)
 have HYS:=hid (fun h2 h3 h4=>mk_yes (M:=M) (x:=x) (y:=y) h0 h2 h3 h4)
 rw[<- hB]at HYS HN4
 have i0:(0:Int)<(n:Int):=by omega
 have HCI:=hid (fun(X:World) (hX:Below w.heap.size w X)=>containsInv X a2 n2 cap2 x hn2 hm2 (H2.below hX))
 have HRW:=hid (fun(X:World) (hX:Below w.heap.size w X)=>H.below hX)
 have HXI:=hid (fun(X:World) (hX:Below w.heap.size w X)=>H2.below hX)
 have HYI:=hid (fun(X:World) (hX:Below w.heap.size w X)=>H3.below hX)
 have HMW:=hid (show ∀r∈M,r.length=zAC M∧∀k,-1<=vec r k∧vec r k<=1 from fun r hr=>⟨hM.wid r hr,hM.one r hr⟩)
 have HYB:=hid (mil_le hmil)
 have HN:=hid hn
 have HNX:=hid hn2
 have HNY:=hid hn3
 have HHN:=hid (show n3=n by omega)
 have hn6:n<=6:=by omega
 obtain⟨W,hW⟩:=exq (zAC M)
 rw[<- hW]at HCC HN2 HN4 HYS HMW hc10 hc1
 clear hn hn2 hn3 H H2 H3 hB h0 hok hyl hmil hM h1 h6 hb hc HN1 hW
 by_cases hlw:n2=W
 rotate_left
 ·obtain rfl:B=false:=HN2.out (by rw[HNX.out];exact hlw)
  have hlb:((n2:Int) !=(W:Int))=true:=by simp;omega
  clear HN3 HN4 HYS HCI HRW HXI HYI HMW HYB
  go_enter Tryz.func84,Tryz.ntmps84
  go_wp2_with (go_at_call 153;refine HRD.out.mono ?_;rintro e w1 ⟨rfl,hb1⟩;refine Stop.of ?_)
  refine Stop.go ?_
  have cc:=HCC.out _ hb1
  go_wp2
  go_ret
  exact⟨rfl,hb1⟩
 subst hlw
 have hlb:((n2:Int) !=(n2:Int))=false:=by simp
 obtain⟨V,hV⟩:=exq (!x.all zAH)
 rw[<- hV]at HCI
 have HVV:=hid hV.symm
 clear hV
 go_enter Tryz.func84,Tryz.ntmps84
 go_wp2_with (go_at_call 153;refine HRD.out.mono ?_;rintro e w1 ⟨rfl,hb1⟩;refine Stop.of ?_)
 refine Stop.go ?_
 have cc:=HCC.out _ hb1
 have HB1:=hid hb1
 have HCI1:=hid (HCI.out _ hb1)
 clear hb1 HCI HRD
 go_wp2_with (go_at_call 80;refine HCI1.out.mono ?_;rintro e w2 ⟨rfl,hb2⟩;refine Stop.of ?_)
 refine Stop.go ?_
 have HB2:=hid (zAA HB1.out hb2)
 clear hb2 HB1 HCI1 cc HCC
 cases V
 rotate_left
 ·obtain rfl:B=false:=HN3.out (by have:=HVV.out;simpa using this)
  go_wp2
  go_ret
  exact⟨rfl,HB2.out⟩
 ·have hall:x.all zAH=true:=by have:=HVV.out;simpa using this
  have hxv:∀k,1<=(zAB x k).2∧(zAB x k).2<=400∧ -10000000000<=(zAB x k).1∧(zAB x k).1<=10000000000:=fun k=>by
   unfold zAB
   cases e:x[k]? with
   |none=>decide
   |some r=>
    have:=List.all_eq_true.1 hall r (List.mem_of_getElem? e)
    rw[zAW]at this
    exact⟨this.1,this.2.1,this.2.2.1,this.2.2.2.1⟩
  have HXV:=hid hxv
  have HYS2:=hid (HYS.out HNX.out hall)
  clear hall hxv HN2 HN3 HYS HVV
  go_wp2
  go_loopw [31] (fun i wr=>∃k:Nat,k<=n∧i=.int .i64 k∧Below w.heap.size w wr∧Hid (∀q,q<k->(sumR (M[q]?.getD []) x n2).1=(sumR (M[q]?.getD []) x n2).2*vec y q)) (fun i _=>n-(intOf i).toNat)
  case atStart=>exact⟨0,Nat.zero_le _,rfl,HB2.out,hid (fun q h=>by omega)⟩
  case round=>
   obtain⟨k,hk,rfl,hbk,HQ⟩:=hrel
   by_cases hlt:k<n
   ·have hkM:k<M.length:=by rw[HN.out];exact hlt
    obtain⟨b5,o5,ra5,rn5,rc5,e5,hb5,hc5,hrn5,hrm5,hri5⟩:=(HRW.out wr hbk) k hkM
    cases e5
    obtain⟨hwid,hone⟩:=HMW.out _ (List.getElem_mem hkM)
    obtain rfl:rn5=n2:=by omega
    have hrowe:M[k]?.getD []=M[k]:=by rw[List.getElem?_eq_getElem hkM];rfl
    have HNK:=hid (HN4.out k hkM)
    rw[hrowe]at HNK
    have HQX:=hid (fun(h:(sumR M[k] x rn5).1=(sumR M[k] x rn5).2*vec y k)=>show ∀q,q<k+1->(sumR (M[q]?.getD []) x rn5).1=(sumR (M[q]?.getD []) x rn5).2*vec y q from fun q hq=>by
     rcases Nat.lt_or_ge q k with h3|h3
     ·exact HQ.out q h3
     ·obtain rfl:q=k:=by omega
      rw[hrowe];exact h)
    obtain⟨R,hR⟩:=exq (M[k])
    rw[<- hR]at hri5 hone hwid HNK HQX
    have HBD:=hid (fun j (hj:j<=10)=>zNR hone HXV.out hj)
    have HBD9:=hid (fun j (hj:j<=9)=>sumR_bnd9 hone HXV.out hj)
    have HRI:=hid (fun(X:World) (hX:Below wr.heap.size wr X)=>hri5.below hX)
    have HONE:=hid hone
    have HWID:=hid hwid
    have HBK:=hid hbk
    have i1:(k:Int)<(n:Int):=by omega
    clear hR hrowe hri5 hrn5 hkM hone hwid hbk HN4 HQ
    go_wp2_with (go_at_call 95;refine(zLU _).mono ?_;rintro e w3 ⟨rfl,hb3⟩;refine Stop.of ?_)
    refine Stop.go ?_
    have hz:sumV 0 1=.agg #[.int .i64 0,.int .u64 0,.int .i64 0,.int .u64 1]:=by simp[sumV]
    rw[hz]
    clear hz
    go_wp2_with fail
    obtain⟨wb,hwb⟩:=exq (w3.alloc (.cells #[.int .i64 0,.int .u64 0,.int .i64 0,.int .u64 1] 102))
    obtain⟨g,hg⟩:=exq (w3.heap.size)
    have hsb:SumB wb g 0 1:=by rw[hwb,hg];exact SumB.made w3 ⟨by decide,by decide⟩ ⟨by decide,by decide⟩
    have hbb:Below w3.heap.size w3 wb:=by rw[hwb];exact(Below.refl _ _).alloc (Nat.le_refl _) _
    rw[<- hwb,<- hg]
    have HSB:=hid hsb
    have HBB:=hid hbb
    have HB3:=hid hb3
    have HG:=hid hg
    clear hwb hg hsb hbb hb3
    obtain⟨wo,hwo⟩:=exq (wr)
    subst hwo
    go_loopw [39] (fun i wr=>∃t:Nat,t<=rn5∧i=.int .i64 t∧SumB wr g (sumR R x t).1 (sumR R x t).2∧Below w3.heap.size w3 wr) (fun i _=>rn5-(intOf i).toNat)
    case atStart=>exact⟨0,Nat.zero_le _,rfl,HSB.out,HBB.out⟩
    case round=>
     obtain⟨t,ht,rfl,hsb,hbt⟩:=hrel
     by_cases htl:t<rn5
     ·have hbw:Below wo.heap.size wo wr:=HB3.out.trans (hbt.mono HB3.out.size)
      obtain⟨b6,o6,rfl,hb6,hc6⟩:=(HRI.out wr hbw) t (by rw[HWID.out];exact htl)
      have hv6:R[t]?.getD 0=vec R t:=rfl
      rw[hv6]at hc6
      have hone:=HONE.out t
      have hsr:sumR R x (t+1)=if vec R t≠0 then((sumR R x t).1*(zAB x t).2+(sumR R x t).2*((zAB x t).1*vec R t),(sumR R x t).2*(zAB x t).2)else sumR R x t:=rfl
      obtain⟨v,hv⟩:=exq (vec R t)
      rw[<- hv]at hc6 hsr hone
      by_cases h0:v=0
      ·rw[if_neg (by simp[h0])]at hsr
       have hvb:(v !=0)=false:=by simp[h0]
       have HSR:=hid hsr
       have HSX:=hid hsb
       have HBT:=hid hbt
       clear hv6 hv hsr hsb hbt hbw
       go_wp2
       refine⟨⟨t+1,by omega,by go_num,by rw[HSR.out];exact HSX.out,HBT.out⟩,by simp[intOf];omega⟩
      ·rw[if_pos h0]at hsr
       have hvb:(v !=0)=true:=by simp[h0]
       obtain⟨k1,k2,k3⟩:=HBD.out t (by omega)
       obtain⟨m1,m2,m3⟩:=HBD.out (t+1) (by omega)
       obtain⟨z1,z2⟩:=HBD9.out t (by omega)
       obtain⟨x1,x2,x3,x4⟩:=HXV.out t
       obtain⟨bx,ox,rfl,hbx,hx0,hx1⟩:=(HXI.out wr (zAA HBK.out hbw)) t (by rw[HNX.out];exact htl)
       have hxt:zAB x t=x[t]'(by rw[HNX.out];exact htl):=by unfold zAB;rw[List.getElem?_eq_getElem (by rw[HNX.out];exact htl)];rfl
       rw[<- hxt]at hx0 hx1
       rw[hsr]at m1 m2 m3
       have HSR:=hid hsr
       obtain⟨⟨N,D⟩,hND⟩:∃q,q=zAB x t:=⟨_,rfl⟩
       rw[<- hND]at hx0 hx1 m1 m2 m3 x1 x2 x3 x4 HSR
       obtain⟨⟨sn,sd⟩,hS⟩:∃q,q=sumR R x t:=⟨_,rfl⟩
       rw[<- hS]at hsb k1 k2 k3 m1 m2 m3 z1 z2 HSR
       simp only[]at hx0 hx1 m1 m2 m3 x1 x2 x3 x4 HSR hsb k1 k2 k3 z1 z2
       have e1:(sn*D).natAbs<=10485760000000000000000000000000000000:=by
        rw[Int.natAbs_mul]
        have:sn.natAbs*D.natAbs<=sn.natAbs*400:=Nat.mul_le_mul_left _ (by omega)
        omega
       have e2:(sd*(N*v)).natAbs<=104857600000000000000000000*10000000000:=by
        rw[Int.natAbs_mul,Int.natAbs_mul]
        exact Nat.mul_le_mul k3 (by have:N.natAbs*v.natAbs<=10000000000*1:=Nat.mul_le_mul (by omega) (by omega);omega)
       have e3: -10000000000<=N*v∧N*v<=10000000000:=by
        have:(N*v).natAbs<=10000000000*1:=by rw[Int.natAbs_mul];exact Nat.mul_le_mul (by omega) (by omega)
        omega
       have HPL:=hid (fun(X:World)=>zJT X sn sd N D v (by unfold B127;omega) (by unfold B127;omega) (by omega) (by omega) (by unfold B127;omega) (by unfold B127;omega) (by unfold B127;omega) (by unfold B127;omega))
       obtain⟨n1,n2,pn⟩:=WP.ex sn
       obtain⟨d1,d2,pd⟩:=WP.ex sd
       obtain⟨s1,s2,pS⟩:=WP.ex (sn*D+sd*(N*v))
       obtain⟨q1,q2,pC⟩:=WP.ex (sd*D)
       rw[pn.sum pd,pS.sum pC]at HPL
       simp only[ratV]at HPL
       have HSS:=hid (fun(X:World) (hX:SumB X g sn sd)=>hX.set pS pC)
       have hcel:=hsb.cells pn pd
       have hgl:=hsb.lt
       have HSX:=hid hsb
       have HBT:=hid hbt
       have HS:=hid (fun(X:World) (hX:Below wr.heap.size wr X)=>show X.cell? ⟨g,0,none⟩=some (.int .i64 n1)∧X.cell? ⟨g,1,none⟩=some (.int .u64 n2)∧X.cell? ⟨g,2,none⟩=some (.int .i64 d1)∧X.cell? ⟨g,3,none⟩=some (.int .u64 d2)∧X.cell? ⟨bx,ox+t*2,none⟩=some (.int .i64 N)∧X.cell? ⟨bx,ox+t*2+1,none⟩=some (.int .i64 D)from
        ⟨(hX.cell (p:=⟨g,0,none⟩) hgl).trans hcel.1,(hX.cell (p:=⟨g,1,none⟩) hgl).trans hcel.2.1,(hX.cell (p:=⟨g,2,none⟩) hgl).trans hcel.2.2.1,(hX.cell (p:=⟨g,3,none⟩) hgl).trans hcel.2.2.2.1,(hX.cell (p:=⟨bx,_,none⟩) hbx).trans hx0,(hX.cell (p:=⟨bx,_,none⟩) hbx).trans hx1⟩)
       have htl2:(t:Int)<(rn5:Int):=by omega
       clear hv6 hv hsr hsb hbt hbw k1 k2 k3 m1 m2 m3 z1 z2 x1 x2 x3 x4 e1 e2 e3 hND hS pn pd pS pC hcel hx0 hx1 hxt
       go_wp2
       refine zAF (fun j' X=>decide (j'<=6)=true->X.cell? ⟨g,0,none⟩=some (.int .i64 n1)∧X.cell? ⟨g,1,none⟩=some (.int .u64 n2)∧X.cell? ⟨g,2,none⟩=some (.int .i64 d1)∧X.cell? ⟨g,3,none⟩=some (.int .u64 d2)∧X.cell? ⟨bx,ox+t*2,none⟩=some (.int .i64 N)∧X.cell? ⟨bx,ox+t*2+1,none⟩=some (.int .i64 D)) (by kernel_rfl) ?_
       have hbd:Below wr.heap.size wr wr.drew:=(Below.refl _ _).drew
       have HSXd:=hid (HSX.out.keep (w':=wr.drew) rfl)
       generalize wr.drew=wd at hbd HSXd⊢
       refine AnyT.tD (i:=0) (v:=.agg #[.int .i64 n1,.int .u64 n2,.int .i64 d1,.int .u64 d2]) rfl rfl (by rintro w' ⟨y1,y2,y3,y4,y5,y6⟩;go_simp) (HS.out _ hbd) ?_;go_frame
       refine AnyT.tD (i:=1) (v:=.slice (some ⟨bx,ox,none⟩) rn5 cap2) rfl rfl (by rintro w' ⟨y1,y2,y3,y4,y5,y6⟩;go_simp) (HS.out _ hbd) ?_;go_frame
       refine AnyT.tD (i:=2) (v:=.int .i64 t) rfl rfl (by rintro w' ⟨y1,y2,y3,y4,y5,y6⟩;go_simp) (HS.out _ hbd) ?_;go_frame
       refine AnyT.tD (i:=3) (v:=.pointer (some ⟨bx,ox+t*2,none⟩)) rfl rfl (by rintro w' ⟨y1,y2,y3,y4,y5,y6⟩;go_simp) (HS.out _ hbd) ?_;go_frame
       refine AnyT.tD (i:=4) (v:=.agg #[.int .i64 N,.int .i64 D]) rfl rfl (by rintro w' ⟨y1,y2,y3,y4,y5,y6⟩;go_simp) (HS.out _ hbd) ?_;go_frame
       refine AnyT.tD (i:=5) (v:=.int .i64 v) rfl rfl (by rintro w' ⟨y1,y2,y3,y4,y5,y6⟩;go_simp) (HS.out _ hbd) ?_;go_frame
       refine AnyT.nx (i:=6) rfl ?_
       go_wp2_with (go_at_call 96;refine(HPL.out _).mono ?_;rintro e w4 ⟨rfl,hb4⟩;refine Stop.of ?_)
       refine Stop.go ?_
       have HB4:=hid (zAA hbd hb4)
       have hs4:=HSXd.out.keep (hb4.block g HSXd.out.lt)
       obtain⟨y1,y2,y3,y4,y5,y6⟩:=HS.out _ HB4.out
       have hfz:∀o,w4.frozen? ⟨g,o,none⟩=false:=by
        obtain⟨_,_,p1⟩:=WP.ex sn
        obtain⟨_,_,p2⟩:=WP.ex sd
        exact(hs4.cells p1 p2).2.2.2.2
       have f0:=hfz 0
       have f1:=hfz 1
       have f2:=hfz 2
       have f3:=hfz 3
       have HST:=hid (HSS.out w4 hs4)
       have hg4:g<w4.heap.size:=hs4.lt
       have HBE:=hid (show Below w3.heap.size w3 ((((w4.setCell ⟨g,0,none⟩ (.int .i64 s1)).setCell ⟨g,1,none⟩ (.int .u64 s2)).setCell ⟨g,2,none⟩ (.int .i64 q1)).setCell ⟨g,3,none⟩ (.int .u64 q2))from by
        have hg3:w3.heap.size<=g:=by rw[HG.out];exact Nat.le_refl _
        exact zAG (zAG (zAG (zAG (HBT.out.trans (HB4.out.mono HBT.out.size)) hg3 0 _) hg3 1 _) hg3 2 _) hg3 3 _)
       clear hs4 hfz HSS HPL hb4 HSXd hbd
       go_wp2
       refine⟨fun _=>HS.out _ HB4.out,?_⟩
       refine AnyT.nx (i:=7) rfl ?_
       go_wp2
       refine⟨fun h=>absurd h (by decide),?_⟩
       refine AnyT.done (by kernel_rfl) ?_ _
       go_wp2
       refine⟨⟨t+1,by omega,by go_num,?_,HBE.out⟩,by simp[intOf];omega⟩
       rw[HSR.out]
       exact HST.out
     ·obtain rfl:t=rn5:=by omega
      have hbw:Below wo.heap.size wo wr:=HB3.out.trans (hbt.mono HB3.out.size)
      obtain⟨k1,k2,k3⟩:=HBD.out t (by omega)
      have hkY:k<y.length:=by rw[HNY.out,HHN.out];exact hlt
      obtain⟨by7,oy7,rfl,hby,hcy⟩:=(HYI.out wr (zAA HBK.out hbw)) k hkY
      have hvy:y[k]?.getD 0=vec y k:=rfl
      rw[hvy]at hcy
      have hyb:=zED (P:=fun z=> -1000000<=z∧z<=1000000) (by decide) HYB.out k
      obtain⟨yv,hyv⟩:=exq (vec y k)
      rw[<- hyv]at hcy hyb HNK HQX
      obtain⟨⟨sn,sd⟩,hS⟩:∃q,q=sumR R x t:=⟨_,rfl⟩
      rw[<- hS]at hsb k1 k2 k3 HNK HQX
      simp only[]at hsb k1 k2 k3 HNK HQX
      have e2:(sd*yv).natAbs<=104857600000000000000000000*1000000:=by
       rw[Int.natAbs_mul]
       exact Nat.mul_le_mul k3 (by omega)
      have HCP:=hid (fun(X:World)=>zJX X sn sd yv (by unfold B127;omega) (by omega) (by unfold B127;omega))
      obtain⟨n1,n2,pn⟩:=WP.ex sn
      obtain⟨d1,d2,pd⟩:=WP.ex sd
      rw[pn.sum pd]at HCP
      obtain⟨z0,z1,z2,z3,_⟩:=hsb.cells pn pd
      have l0:=zAZ hsb.lt z0
      have l1:=zAZ hsb.lt z1
      have l2:=zAZ hsb.lt z2
      have l3:=zAZ hsb.lt z3
      have l4:=zAZ hby hcy
      have hcz:(cmpI sn (sd*yv)=0↔sn=sd*yv):=by unfold cmpI;split<;>(try split)<;>omega
      obtain⟨cv,hcv⟩:=exq (cmpI sn (sd*yv))
      rw[<- hcv]at HCP hcz
      have HCZ:=hid hcz
      have HBT:=hid (zAA HBK.out hbw)
      have i3:(k:Int)<(n3:Int):=by have:=HHN.out;omega
      have i4:(0:Int)<=(k:Int):=by omega
      clear hbw hkY hvy hyv hS hsb k1 k2 k3 e2 pn pd z0 z1 z2 z3 hcv hcz hcy hbt hyb
      go_wp2
      refine zDF (by kernel_rfl) (by kernel_rfl) ?_
      repeat (go_big_quiet_step ((go_at_call 155;exact zCE (HCP.out _))))
      refine wpQuiet_nil ?_
      rintro _ ⟨X,rfl⟩
      have HFB:=hid (zAA HBT.out (zCW wr X))
      clear l0 l1 l2 l3 l4
      by_cases hc0:cv=0
      ·have hcb:(cv !=0)=false:=by simp[hc0]
       have HX:=hid (HQX.out (HCZ.out.1 hc0))
       go_wp2
       exact⟨⟨k+1,by omega,by go_num,HFB.out,HX⟩,by simp[intOf];omega⟩
      ·have hcb:(cv !=0)=true:=by simp[hc0]
       obtain rfl:B=false:=HNK.out (fun h=>hc0 (HCZ.out.2 h))
       go_wp2
       go_ret
       exact⟨rfl,HFB.out⟩
   ·obtain rfl:k=n:=by omega
    obtain rfl:B=true:=HYS2.out (fun i hi=>HQ.out i (by have:=HN.out;omega))
    go_wp2
    go_ret
    exact⟨rfl,hbk⟩
end
section
open Go.RowKit Go.Lib
theorem zMK(w:World)(a a2:Option Addr)(n cap n2 cap2:Nat)(M:Mask)(y:List Int)(hn:M.length=n)(hn2:y.length=n2)(hm:n<=maxLen)(hm2:n2<=maxLen)(H:zAN w a M)(H2:zAI w a2 y):
 Calls Tryz.prog 17 #[.slice a n cap,.slice a2 n2 cap2] w fun e w'=>e=.returned (.bool (decide (rdE M y=0)))∧w=w':=by
 have HC:=hid (r3Read_c w a a2 n cap n2 cap2 M y hn hn2 hm hm2 H H2)
 obtain⟨E,hE⟩:=exq (rdE M y)
 rw[<- hE]at HC⊢
 clear hE hn hn2 H H2
 go_enter Tryz.func17,Tryz.ntmps17
 go_wp2_with (go_at_call 71;refine HC.out.mono ?_;rintro e w1 ⟨rfl,rfl⟩;refine Stop.of ?_)
 refine Stop.go ?_
 go_wp2
 go_ret
 exact⟨zAT (by rw[Bool.eq_iff_iff];simp),rfl⟩
end
section
def denP(x:List Rt):Nat->Int
 |0=>1
 |k+1=>denP x k*(zAB x k).2
theorem denP_ne{x:List Rt}(h:∀k,(zAB x k).2≠0):∀k,denP x k≠0
 |0=>by show(1:Int)≠0;decide
 |k+1=>Int.mul_ne_zero (denP_ne h k) (h k)
theorem denP_dvd(x:List Rt):∀(k i:Nat),i<k->(zAB x i).2∣denP x k
 |0,i,h=>by omega
 |k+1,i,h=>by
  by_cases e:i=k
  ·subst e;exact⟨denP x i,Int.mul_comm _ _⟩
  ·obtain⟨c,hc⟩:=denP_dvd x k i (by omega)
   exact⟨c*(zAB x k).2,by rw[denP,hc];grind⟩
def numP(x:List Rt)(W i:Nat):Int:=(zAB x i).1*(denP x W/(zAB x i).2)
theorem numP_eq{x:List Rt}{W i:Nat}(hi:i<W):numP x W i*(zAB x i).2=(zAB x i).1*denP x W:=by
 have h2:=Int.ediv_mul_cancel (denP_dvd x W i hi)
 unfold numP
 rw[Int.mul_assoc,h2]
end
end
section
def sumA{α:Type}(v:α->Int):List α->Nat
 | []=>0
 |r::rs=>(v r).natAbs+sumA v rs
def pairA{α:Type}(c d:α->Int):List α->Nat
 | []=>0
 |r::rs=>sumA (fun s=>c r*d s-d r*c s) rs+pairA c d rs
theorem ex_abs{α:Type}(v:α->Int):∀(l:List α) (F:Nat) (f:List α->Int),(∀m:List α,m.length+1=l.length->(f m).natAbs<=F)->(ex v f l).natAbs<=F*sumA v l
 | [],F,f,_=>by simp[ex]
 |r::rs,F,f,hf=>by
  have h1:=ex_abs v rs F (fun l=>f (r::l)) (fun m hm=>hf _ (by simp;omega))
  have h2:=hf rs (by simp)
  have h3:(v r*f rs).natAbs<=F*(v r).natAbs:=by rw[Int.natAbs_mul,Nat.mul_comm];exact Nat.mul_le_mul_right _ h2
  unfold ex sumA
  rw[Nat.mul_add]
  omega
theorem ex_lin{α:Type}(c d:α->Int)(x y:Int):∀(l:List α) (f:List α->Int),ex (fun s=>x*d s-y*c s) f l=x*ex d f l-y*ex c f l
 | [],f=>by simp[ex]
 |r::rs,f=>by
  unfold ex
  rw[ex_lin c d x y rs (fun l=>f (r::l))]
  grind
theorem ex2_abs{α:Type}(c d:α->Int):∀(l:List α) (F:Nat) (f:List α->Int),(∀m:List α,m.length+2=l.length->(f m).natAbs<=F)->(ex c (ex d f) l).natAbs<=F*pairA c d l
 | [],F,f,_=>by simp[ex]
 |r::rs,F,f,hf=>by
  have h1:=ex2_abs c d rs F (fun k=>f (r::k)) (fun m hm=>hf _ (by simp;omega))
  have e1:ex c (fun l=>ex d f (r::l)) rs=d r*ex c f rs-ex c (ex d (fun m=>f (r::m))) rs:=by
   have:(fun l=>ex d f (r::l))=fun l=>d r*f l-ex d (fun m=>f (r::m)) l:=by funext l;rfl
   rw[this,ex_sub c rs (fun l=>d r*f l) (fun l=>ex d (fun m=>f (r::m)) l),ex_mul]
  have e2:ex c (ex d f) (r::rs)=ex (fun s=>c r*d s-d r*c s) f rs+ex c (ex d (fun m=>f (r::m))) rs:=by
   rw[ex_lin]
   show c r*ex d f rs-ex c (fun l=>ex d f (r::l)) rs=_
   rw[e1];omega
  have h2:=ex_abs (fun s=>c r*d s-d r*c s) rs F f (fun m hm=>hf m (by simp;omega))
  rw[e2]
  unfold pairA
  rw[Nat.mul_add]
  omega
structure Cnt where
 a:Nat
 b:Nat
 c:Nat
 d:Nat
def cnt{α:Type}(c d:α->Int):List α->Cnt
 | []=>⟨0,0,0,0⟩
 |r::rs=>
  let k:=cnt c d rs
  if c r=0 then(if d r=0 then k else {k with d:=k.d+1})else if d r=0 then {k with c:=k.c+1}else if c r=d r then {k with a:=k.a+1}else {k with b:=k.b+1}
theorem zPW{α:Type}(c d:α->Int)(r:α)(rs:List α):cnt c d (r::rs)=if c r=0 then(if d r=0 then cnt c d rs else {cnt c d rs with d:=(cnt c d rs).d+1})else if d r=0 then {cnt c d rs with c:=(cnt c d rs).c+1}else if c r=d r then {cnt c d rs with a:=(cnt c d rs).a+1}else {cnt c d rs with b:=(cnt c d rs).b+1}:=rfl
theorem one3{x:Int}(h: -1<=x∧x<=1):x= -1∨x=0∨x=1:=by omega
theorem cnt_le{α:Type}(c d:α->Int):∀l:List α,(cnt c d l).a+(cnt c d l).b+(cnt c d l).c+(cnt c d l).d<=l.length
 | []=>by simp[cnt]
 |r::rs=>by
  have:=cnt_le c d rs
  rw[zPW]
  simp only[List.length_cons]
  generalize cnt c d rs=k at this⊢
  obtain⟨A,B,C,D⟩:=k
  split<;>(try split)<;>(try split)<;>(try simp only[])<;>(try simp only[]at this)<;>omega
theorem sum_cnt{α:Type}{c d:α->Int}(hc:∀r,-1<=c r∧c r<=1)(hd:∀r,-1<=d r∧d r<=1)(x y:Int)(hx: -1<=x∧x<=1)(hy: -1<=y∧y<=1):∀l:List α,
 sumA (fun s=>x*d s-y*c s) l=if x=0 then(if y=0 then 0 else(cnt c d l).a+(cnt c d l).b+(cnt c d l).c)else if y=0 then(cnt c d l).a+(cnt c d l).b+(cnt c d l).d else if x=y then 2*(cnt c d l).b+(cnt c d l).c+(cnt c d l).d else 2*(cnt c d l).a+(cnt c d l).c+(cnt c d l).d
 | []=>by simp[sumA,cnt]
 |r::rs=>by
  have ih:=sum_cnt hc hd x y hx hy rs
  unfold sumA
  rw[ih,zPW]
  have h1:=one3 (hc r)
  have h2:=one3 (hd r)
  generalize c r=p at h1⊢
  generalize d r=q at h2⊢
  generalize cnt c d rs=k
  rcases one3 hx with rfl|rfl|rfl<;>rcases one3 hy with rfl|rfl|rfl<;>rcases h1 with rfl|rfl|rfl<;>rcases h2 with rfl|rfl|rfl<;>simp<;>omega
theorem pair_cnt{α:Type}{c d:α->Int}(hc:∀r,-1<=c r∧c r<=1)(hd:∀r,-1<=d r∧d r<=1):∀l:List α,
 pairA c d l=2*((cnt c d l).a*(cnt c d l).b)+(cnt c d l).c*(cnt c d l).d+((cnt c d l).c+(cnt c d l).d)*((cnt c d l).a+(cnt c d l).b)
 | []=>by simp[pairA,cnt]
 |r::rs=>by
  have ih:=pair_cnt hc hd rs
  have hs:=sum_cnt hc hd (c r) (d r) (hc r) (hd r) rs
  unfold pairA
  rw[hs,ih,zPW]
  have h1:=one3 (hc r)
  have h2:=one3 (hd r)
  generalize c r=p at h1⊢
  generalize d r=q at h2⊢
  generalize cnt c d rs=k
  obtain⟨A,B,C,D⟩:=k
  rcases h1 with rfl|rfl|rfl<;>rcases h2 with rfl|rfl|rfl<;>simp<;>grind
theorem pair_le{α:Type}{c d:α->Int}(hc:∀r,-1<=c r∧c r<=1)(hd:∀r,-1<=d r∧d r<=1)(l:List α):2*pairA c d l<=l.length*l.length:=by
 rw[pair_cnt hc hd l]
 have h:=cnt_le c d l
 generalize cnt c d l=k at h⊢
 obtain⟨A,B,C,D⟩:=k
 simp only[]at h⊢
 refine Nat.le_trans ?_ (Nat.mul_le_mul h h)
 have hab:2*(A*B)<=A*A+B*B:=by
  rcases Nat.le_total A B with e|e
  ·obtain⟨t,rfl⟩:=Nat.exists_eq_add_of_le e
   have:=Nat.zero_le (t*t)
   grind
  ·obtain⟨t,rfl⟩:=Nat.exists_eq_add_of_le e
   have:=Nat.zero_le (t*t)
   grind
 have h1:=Nat.zero_le (C*C)
 have h2:=Nat.zero_le (D*D)
 have e:(A+B+C+D)*(A+B+C+D)=A*A+B*B+2*(A*B)+(C*C+D*D+2*(C*D))+2*((C+D)*(A+B)):=by grind
 rw[e]
 omega
theorem det_288{α:Type}(cs:List (α->Int))(hc:∀c∈cs,∀r,-1<=c r∧c r<=1)(l:List α)(hl:l.length=cs.length)(h6:cs.length<=6):(det cs l).natAbs<=288:=by
 have two:∀(c d:α->Int) (ds:List (α->Int)) (F:Nat) (m:List α),(∀r,-1<=c r∧c r<=1)->(∀r,-1<=d r∧d r<=1)->(∀k:List α,k.length+2=m.length->(det ds k).natAbs<=F)->(det (c::d::ds) m).natAbs<=F*(m.length*m.length/2):=by
  intro c d ds F m h1 h2 h3
  refine Nat.le_trans (ex2_abs c d m F (det ds) h3) (Nat.mul_le_mul_left _ ?_)
  have:=pair_le h1 h2 m
  omega
 have d0:∀m:List α,(det ([]:List (α->Int)) m).natAbs<=1:=fun m=>by simp[det]
 have d1:∀(c:α->Int) (m:List α),(∀r,-1<=c r∧c r<=1)->m.length=1->(det [c] m).natAbs<=1:=by
  intro c m h hm
  match m,hm with
  | [r],_=>have:=h r;simp[det,ex];omega
 match cs,hc,hl,h6 with
 | [],_,_,_=>have:=d0 l;omega
 | [c],hc,hl,_=>have:=d1 c l (hc c (by simp)) (by simpa using hl);omega
 | [c,d],hc,hl,_=>
   have:=two c d [] 1 l (hc c (by simp)) (hc d (by simp)) (fun k _=>d0 k)
   rw[hl]at this;simp at this;omega
 | [c,d,e],hc,hl,_=>
   have:=two c d [e] 1 l (hc c (by simp)) (hc d (by simp)) (fun k hk=>d1 e k (hc e (by simp)) (by simp at hl;omega))
   rw[hl]at this;simp at this;omega
 | [c,d,e,f],hc,hl,_=>
   have:=two c d [e,f] 2 l (hc c (by simp)) (hc d (by simp)) (fun k hk=>by
    have:=two e f [] 1 k (hc e (by simp)) (hc f (by simp)) (fun k _=>d0 k)
    rw[show k.length=2 by simp at hl;omega]at this;simpa using this)
   rw[hl]at this;simp at this;omega
 | [c,d,e,f,g],hc,hl,_=>
   have:=two c d [e,f,g] 4 l (hc c (by simp)) (hc d (by simp)) (fun k hk=>by
    have hk3:k.length=3:=by simp at hl;omega
    have:=two e f [g] 1 k (hc e (by simp)) (hc f (by simp)) (fun j hj=>d1 g j (hc g (by simp)) (by omega))
    rw[hk3]at this;simpa using this)
   rw[hl]at this;simp at this;omega
 | [c,d,e,f,g,h],hc,hl,_=>
   have:=two c d [e,f,g,h] 16 l (hc c (by simp)) (hc d (by simp)) (fun k hk=>by
    have hk4:k.length=4:=by simp at hl;omega
    have:=two e f [g,h] 2 k (hc e (by simp)) (hc f (by simp)) (fun j hj=>by
     have:=two g h [] 1 j (hc g (by simp)) (hc h (by simp)) (fun k _=>d0 k)
     rw[show j.length=2 by omega]at this;simpa using this)
    rw[hk4]at this;simpa using this)
   rw[hl]at this;simp at this;omega
 |_::_::_::_::_::_::_::_,_,_,h6=>simp at h6
end
section
theorem RInv.piv_288{W N:Nat}{A0:Nat->Vec}{j:Nat}{L:List (List Int)}{J:List Nat}(h:RInv W N A0 j L J)(hN:N<=6)(h1:∀x∈J,∀r,-1<=A0 r x∧A0 r x<=1){k:Nat}(hk:k<J.length):
 0<rowv L k (jf J k)∧rowv L k (jf J k)<=288:=by
 have hp:=(h.pp k hk).2
 refine⟨hp,?_⟩
 obtain⟨A,hs,hA⟩:=h.st
 have hd:=det_288 (zCU (jf J) A J.length) (fun x hx r=>by
  obtain⟨k,hk,rfl⟩:=zFU.1 hx
  obtain⟨q0,e⟩:=hA r
  simp only[e]
  exact h1 _ (by unfold jf;rw[List.getElem?_eq_getElem hk];exact List.getElem_mem hk) q0) (zCO J.length) (by rw[zEY,zDC]) (by rw[zDC];exact Nat.le_trans hs.le hN)
 have h0:=hs.d0
 have hdv:=Int.natAbs_dvd_natAbs.2 (hs.piv_dvd hk (h.pp k hk).1)
 have:=Nat.le_of_dvd (by omega) hdv
 omega
theorem sys_zero{R:List (List Int)}{n Y:Nat}(h:MaskY R n Y)(hn:n∉(rRed R (n+1)).piv){q:Nat}(h1:(pRed R n).2.length<=q)(h2:q<R.length)(c:Nat):rowv (pRed R n).1 q c=0:=by
 have hi:=zCK R h.wid n (fun j hj q=>zCC (by decide) (fun r hr=>h.one r hr j hj) q)
 rcases Nat.lt_or_ge c n with hc|hc
 ·exact hi.zero q h1 h2 c hc
 ·by_cases e:c=n
  ·subst e
   rcases Classical.em (rowv (pRed R c).1 q c=0)with e0|e0
   ·exact e0
   ·exact absurd (red_more (m:=c+1) h.wid h.one (Nat.le_refl _) h1 h2 e0) hn
  ·exact zHD hi.wid q (by omega)
theorem zGU{α:Type}(f:Nat->α)(g:Nat->Nat)(l:List α):∀(K j:Nat),(∀a,a<K->g a≠j)->((List.range K).foldl (fun out i=>out.set (g i) (f i)) l)[j]? =l[j]?
 |0,j,_=>by simp
 |K+1,j,h=>by
  rw[List.range_succ,List.foldl_append]
  simp only[List.foldl_cons,List.foldl_nil]
  rw[List.getElem?_set_ne (h K (by omega))]
  exact zGU f g l K j (fun a ha=>h a (by omega))
theorem zKW{R:List (List Int)}{n Y:Nat}(h:MaskY R n Y)(hn:n∉(rRed R (n+1)).piv):
 (zBP R n).2.2=true∧(zBP R n).1.length=n∧(∀i,i<(pRed R n).2.length->zAB (zBP R n).1 (jf (pRed R n).2 i)=zAR (rowv (pRed R n).1 i n) (rowv (pRed R n).1 i (jf (pRed R n).2 i)))∧
 (∀j,j∉(pRed R n).2->zAB (zBP R n).1 j=(0,1)):=by
 have hi:=zCK R h.wid n (fun j hj q=>zCC (by decide) (fun r hr=>h.one r hr j hj) q)
 obtain⟨e1,e2⟩:=zOX (m:=n+1) h.wid h.one (Nat.le_refl _) (fun q h1 h2 c _ _=>sys_zero h hn h1 h2 c)
 have hl:=zFC R n
 have hK:=hi.K_le
 unfold zBP
 simp only[]
 rw[if_neg hn,e2,<- e1]
 refine⟨rfl,by rw[zEJ];simp,fun i hlt=>?_,fun j hj=>?_⟩
 ·unfold zAB
  rw[zLB (fun i=>zAR (vec (((pRed R n).1.take (pRed R n).2.length)[i]?.getD []) n) (vec (((pRed R n).1.take (pRed R n).2.length)[i]?.getD []) (jf (pRed R n).2 i))) (fun i=>jf (pRed R n).2 i) _ _ i hlt (by simp only[List.length_replicate];exact hi.jf_lt hlt) (fun a b h1 h2=>by have:=hi.ech.asc a b h1 h2;omega)]
  rw[List.getElem?_take_of_lt hlt]
  rfl
 ·unfold zAB
  rw[zGU _ _ _ _ j (fun a ha e=>hj (by rw[<- e];exact jf_mem ha)),List.getElem?_replicate]
  split<;>rfl
theorem zDI{a b:Int}(hb:0<b):0<(zAR a b).2∧(zAR a b).2<=b∧(zAR a b).1.natAbs<=a.natAbs∧Int.gcd (zAR a b).1 (zAR a b).2=1∧(zAR a b).1*b=a*(zAR a b).2:=by
 have g1:0<Int.gcd a b:=Nat.pos_of_ne_zero fun e=>by have:=(Int.gcd_eq_zero_iff.1 e).2;omega
 obtain⟨a1,ha⟩:=Int.gcd_dvd_left a b
 obtain⟨b1,hb1⟩:=Int.gcd_dvd_right a b
 have hG0:((Int.gcd a b:Nat):Int)≠0:=by omega
 have e:zAR a b=(a1,b1):=by
  unfold zAR
  rw[Int.tdiv_eq_of_eq_mul_left hG0 (c:=a1) (by rw[Int.mul_comm];exact ha),Int.tdiv_eq_of_eq_mul_left hG0 (c:=b1) (by rw[Int.mul_comm];exact hb1)]
 rw[e]
 have hb0:0<b1:=by
  rcases Int.lt_or_le 0 b1 with h|h
  ·exact h
  ·have:((Int.gcd a b:Nat):Int)*b1<=0:=Int.mul_nonpos_of_nonneg_of_nonpos (by omega) h
   omega
 have hg:Int.gcd a1 b1=1:=by
  have k1:Int.gcd (((Int.gcd a b:Nat):Int)*a1) (((Int.gcd a b:Nat):Int)*b1)=Int.gcd a b*Int.gcd a1 b1:=by
   rw[Int.gcd_mul_left];simp
  rw[<- ha,<- hb1]at k1
  exact Nat.eq_of_mul_eq_mul_left g1 (by omega)
 refine⟨hb0,?_,?_,hg,?_⟩
 ·have:b1*1<=b1*((Int.gcd a b:Nat):Int):=Int.mul_le_mul_of_nonneg_left (by omega) (by omega)
  rw[Int.mul_comm b1 ((Int.gcd a b:Nat):Int)]at this
  omega
 ·have:a1.natAbs<=Int.gcd a b*a1.natAbs:=Nat.le_mul_of_pos_left _ g1
  have h2:a.natAbs=Int.gcd a b*a1.natAbs:=by
   have:=congrArg Int.natAbs ha
   rwa [Int.natAbs_mul,Int.natAbs_natCast]at this
  omega
 ·show a1*b=a*b1
  generalize ((Int.gcd a b:Nat):Int)=G at ha hb1
  rw[ha,hb1];grind
theorem sys_le{R:List (List Int)}{n Y:Nat}(h:MaskY R n Y)(i c:Nat):(rowv (pRed R n).1 i c).natAbs<=720*Y:=by
 unfold rowv
 cases hk:(pRed R n).1[i]? with
 |none=>simp[vec]
 |some r=>
  have h2:=(pRed_le (n:=n) (Y:=Y) h.wid h.le6 (fun r hr c hc=>h.one r hr c hc) h.all (Nat.le_refl n) r (List.mem_of_getElem? hk)).2
  have:=zED (P:=fun x=>x.natAbs<=720*Y) (by simp) (fun x hx=>by have:=h2 x hx;omega) c
  simpa using this
theorem zKV{R:List (List Int)}{n Y:Nat}(h:MaskY R n Y)(hY:Y<=1000000)(hn:n∉(rRed R (n+1)).piv):(zBP R n).1.all zAH=true∧∀j,0<(zAB (zBP R n).1 j).2:=by
 obtain⟨_,hl,hp,ho⟩:=zKW h hn
 have hi:=zCK R h.wid n (fun j hj q=>zCC (by decide) (fun r hr=>h.one r hr j hj) q)
 have hv:∀j,zAH (zAB (zBP R n).1 j)=true:=by
  intro j
  by_cases hj:j∈(pRed R n).2
  ·obtain⟨i,hilt,e⟩:=List.mem_iff_getElem.1 hj
   have ej:jf (pRed R n).2 i=j:=by unfold jf;rw[List.getElem?_eq_getElem hilt];simpa using e
   rw[<- ej,hp i hilt]
   obtain⟨b1,b2⟩:=hi.piv_288 h.le6 (fun x hx r=>zCC (by decide) (fun r hr=>h.one r hr x (hi.lt x hx)) r) hilt
   have b3:=sys_le h i n
   obtain⟨c1,c2,c3,c4,_⟩:=zDI (a:=rowv (pRed R n).1 i n) b1
   have b4:720*Y<=720000000:=by omega
   rw[zAW]
   exact⟨by omega,by omega,by omega,by omega,c4⟩
  ·rw[ho j hj];decide
 refine⟨List.all_eq_true.2 fun r hr=>?_,fun j=>?_⟩
 ·obtain⟨j,hj,e⟩:=List.mem_iff_getElem.1 hr
  have:=hv j
  unfold zAB at this
  rw[List.getElem?_eq_getElem hj]at this
  rw[<- e];exact this
 ·have:=(zAW.1 (hv j)).1;omega
theorem zMD(f:Nat->Int)(n:Nat):sm f (n+1)=sm f n+f n:=rfl
theorem solved_row{R:List (List Int)}{n Y:Nat}(h:MaskY R n Y)(hY:Y<=1000000)(hn:n∉(rRed R (n+1)).piv){u:Vec}(hu:Sp (RB R.length (rowv R)) u):
 sm (fun j=>u j*numP (zBP R n).1 n j) n=u n*denP (zBP R n).1 n:=by
 obtain⟨_,hl,hp,ho⟩:=zKW h hn
 obtain⟨_,hpos⟩:=zKV h hY hn
 have hi:=zCK R h.wid n (fun j hj q=>zCC (by decide) (fun r hr=>h.one r hr j hj) q)
 have hden:denP (zBP R n).1 n≠0:=denP_ne (fun k=>by have:=hpos k;omega) n
 have hnum:=fun i (hi:i<n)=>numP_eq (x:=(zBP R n).1) (W:=n) hi
 generalize (zBP R n).1=X at hl hp ho hpos hden hnum⊢
 have hsp:=(hi.span (fun q h1 h2 c=>sys_zero h hn h1 h2 c)).2 hu
 have key:=zPQ (B:=RB (pRed R n).2.length (rowv (pRed R n).1)) (h:=fun c=>if c<n then numP X n c else-denP X n) (n:=n+1) (by
  rintro v ⟨k,hk,rfl⟩
  have hkn:=hi.jf_lt hk
  unfold dotS
  rw[zMD,zAL (g:=fun c=>rowv (pRed R n).1 k c*numP X n c) (fun c hc=>by simp only[if_pos hc])]
  simp only[Nat.lt_irrefl,if_false]
  rw[zDZ hkn (fun c hc hne=>?_)]
  ·have e1:=hnum _ hkn
   rw[hp k hk]at e1
   have hb:=(hi.pp k hk).2
   obtain⟨c1,_,_,_,c5⟩:=zDI (a:=rowv (pRed R n).1 k n) hb
   -- num*b2=b1*den,b1*b=a*b2
   generalize rowv (pRed R n).1 k (jf (pRed R n).2 k)=b at*
   generalize rowv (pRed R n).1 k n=a at*
   generalize zAR a b=p at*
   obtain⟨b1,b2⟩:=p
   dsimp only at*
   have e2:b2*(b*numP X n (jf (pRed R n).2 k))=b2*(a*denP X n):=by
    have:b2*(b*numP X n (jf (pRed R n).2 k))=b*(numP X n (jf (pRed R n).2 k)*b2):=by grind
    rw[this,e1]
    have:b*(b1*denP X n)=(b1*b)*denP X n:=by grind
    rw[this,c5];grind
   have e3:=Int.eq_of_mul_eq_mul_left (show b2≠0 by omega) e2
   rw[e3,Int.mul_neg];omega
  ·by_cases hm:c∈(pRed R n).2
   ·obtain⟨q,hq,e⟩:=List.mem_iff_getElem.1 hm
    have ej:jf (pRed R n).2 q=c:=by unfold jf;rw[List.getElem?_eq_getElem hq];simpa using e
    have hqk:q≠k:=fun e2=>hne (by rw[<- ej,e2])
    rw[<- ej,hi.ech.red.off k hk q hq (fun e3=>hqk e3.symm)]
    simp
   ·have e1:=hnum c hc
    rw[ho c hm]at e1
    simp at e1
    rw[e1];simp) hsp
 unfold dotS at key
 rw[zMD,zAL (g:=fun c=>u c*numP X n c) (fun c hc=>by simp only[if_pos hc])]at key
 simp only[Nat.lt_irrefl,if_false]at key
 rw[Int.mul_neg]at key
 omega
end
section
theorem zLW{M:List (List Int)}{n:Nat}(h:MaskOk M n){y:List Int}(hy:y.length=M.length){q:Nat}(hq:q<M.length):zER n (rowv (zAK M y) q)=rowv M q:=by
 funext c
 unfold zER
 by_cases hc:c<n
 ·rw[if_pos hc,zGL h hy hq,if_pos hc]
 ·rw[if_neg hc,zHD h.wid q (by omega)]
theorem zLX{M:List (List Int)}{n:Nat}(h:MaskOk M n){y:List Int}(hy:y.length=M.length){Y:Nat}(hY:MaskY (zAK M y) n Y):(pRed (zAK M y) n).2=JP M n:=by
 have he:=zCK (zAK M y) hY.wid n (fun j hj q=>zCC (by decide) (fun r hr=>hY.one r hr j hj) q)
 rw[zDV hy]at he
 have hi:=h.inv n
 have hE:Ech (pRed (zAK M y) n).2.length (jf (pRed (zAK M y) n).2) (fun k=>zER n (rowv (pRed (zAK M y) n).1 k)):=by
  have e:=he.ech
  refine⟨⟨fun k hk=>?_,fun k hk q hq hne=>?_⟩,fun k hk c hc=>?_,e.asc⟩
  ·have hl:=he.jf_lt hk
   simp only[zER,if_pos hl]
   exact e.red.piv k hk
  ·have hl:=he.jf_lt hq
   simp only[zER,if_pos hl]
   exact e.red.off k hk q hq hne
  ·simp only[zER]
   split
   ·exact e.lead k hk c hc
   ·rfl
 have s1:∀k,k<(pRed (zAK M y) n).2.length->Sp (RB (JP M n).length (rowv (RP M n))) (zER n (rowv (pRed (zAK M y) n).1 k)):=by
  intro k hk
  refine h.span.2 (truncV_sp (B:=RB M.length (rowv (zAK M y))) ?_ (he.sp1 k (Nat.lt_of_lt_of_le hk he.K_le)))
  rintro v ⟨q,hq,rfl⟩
  rw[zLW h hy hq];exact RB.sp hq
 have s2:∀k,k<(JP M n).length->Sp (RB (pRed (zAK M y) n).2.length (fun k=>zER n (rowv (pRed (zAK M y) n).1 k))) (rowv (RP M n) k):=by
  intro k hk
  refine(h.span.1 (RB.sp hk)).trans ?_
  rintro v ⟨q,hq,rfl⟩
  rw[<- zLW h hy hq]
  refine truncV_sp (B:=RB M.length (rowv (pRed (zAK M y) n).1)) ?_ (he.sp2 q hq)
  rintro v ⟨m,hm,rfl⟩
  rcases Nat.lt_or_ge m (pRed (zAK M y) n).2.length with c|c
  ·exact .of ⟨m,c,rfl⟩
  ·refine Sp.zero.congr fun x=>?_
   unfold zER
   split
   ·exact he.zero m c hm x ‹_›
   ·rfl
 obtain⟨hK,hJ,hR⟩:=hE.unique hi.ech s1 s2
 exact List.ext_getElem hK fun k h1 h2=>by
  have:=hJ k h1
  unfold jf at this
  rw[List.getElem?_eq_getElem h1,List.getElem?_eq_getElem h2]at this
  simpa using this
end
end Go.Proofs.YtlffndehhhpgjaaGreat
