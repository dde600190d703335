/- Walks and plain laws for DualRangesRow, part 12. -/
import Derived.Test.YtlffndehhhpgjaaGreatPkDualRangesRow11
namespace Go.Proofs.YtlffndehhhpgjaaGreat
set_option linter.unusedVariables false
set_option linter.unusedSimpArgs false
set_option maxRecDepth 100000
set_option maxHeartbeats 4000000
section
open Go.RowKit
theorem plus_c(w:World)(v u:Value)(L K:Nat)(N M:Int)(h:NatV w v L N)(k:NatV w u K M)(hL:L<=400)(hK:K<=400):
 Calls Tryz.prog 76 #[v,u] w fun e w'=>∃x,e=.returned x∧NatV w' x (max L K+1) (N+M)∧Below w.heap.size w w':=by
 obtain⟨a,n,cap,l,rfl,hn,hnL,H,hd,ht,rfl⟩:=h
 obtain⟨a2,n2,cap2,m,rfl,hn2,hnK,H2,hd2,ht2,rfl⟩:=k
 have HD1:=hid (fun(X:World) (hX:Below w.heap.size w X) (i:Nat)=>zPJ X a n cap l hn (by omega) (H.below hX) i)
 have HD2:=hid (fun(X:World) (hX:Below w.heap.size w X) (i:Nat)=>zPJ X a2 n2 cap2 m hn2 (by omega) (H2.below hX) i)
 obtain⟨T,hT⟩:=exq (max n n2)
 have hTL:T<=max L K:=by omega
 -- how the sum grows
 have HST:=hid (fun(i:Nat) (o:List Int) (c:Int) (ho:o.length=i) (hod:DigL o) (hc:0<=c∧c<=1) (hv:valN o+pw i*c=valN (l.take i)+valN (m.take i))=>
  show 0<=digF l i+digF m i+c∧digF l i+digF m i+c<=1999999999∧DigL (o++[(digF l i+digF m i+c)%1000000000])∧(0<=(digF l i+digF m i+c)/1000000000∧(digF l i+digF m i+c)/1000000000<=1)∧
   valN (o++[(digF l i+digF m i+c)%1000000000])+pw (i+1)*((digF l i+digF m i+c)/1000000000)=valN (l.take (i+1))+valN (m.take (i+1))from by
  have b1:=zEJ hd i
  have b2:=zEJ hd2 i
  refine⟨by omega,by omega,hod.snoc (by omega) (by omega),by omega,?_⟩
  rw[zFN,ho,zEF,zEF,pw]
  have:digF l i+digF m i+c=(digF l i+digF m i+c)%1000000000+1000000000*((digF l i+digF m i+c)/1000000000):=by omega
  generalize (digF l i+digF m i+c)%1000000000=r at this⊢
  generalize (digF l i+digF m i+c)/1000000000=q at this⊢
  have e:c=r+1000000000*q-digF l i-digF m i:=by omega
  subst e
  grind)
 -- the sum when no more is to be added
 have HEN:=hid (fun(i:Nat) (o:List Int) (ho:o.length=i) (hod:DigL o) (hi:T<=i) (hi2:i<=T+1) (hv:valN o+pw i*0=valN (l.take i)+valN (m.take i)) (hlast:T<i->pw T<=valN l+valN m)=>
  show valN o=valN l+valN m∧zGK o from by
  rw[zEG (show l.length<=i by omega),zEG (show m.length<=i by omega)]at hv
  refine⟨by omega,zGK.of_low hod fun hpos=>?_⟩
  rw[ho]at hpos⊢
  rcases Nat.lt_or_ge T i with c|c
  ·obtain rfl:i=T+1:=by omega
   have:=hlast c
   rw[Nat.add_sub_cancel];omega
  ·obtain rfl:i=T:=by omega
   have c1:=hd.bnd
   have c2:=hd2.bnd
   rcases Nat.lt_or_ge n n2 with c|c
   ·have:=ht2.low hd2 (by omega)
    rw[show m.length=i by omega]at this
    omega
   ·have:=ht.low hd (by omega)
    rw[show l.length=i by omega]at this
    omega)
 have HLA:=hid (fun(o:List Int) (hod:DigL o) (ho:o.length=T) (hv:valN o+pw T*1=valN (l.take T)+valN (m.take T))=>show pw T<=valN l+valN m from by
  rw[zEG (show l.length<=T by omega),zEG (show m.length<=T by omega)]at hv
  have:=hod.bnd
  omega)
 have HZD:=hid (fun(i:Nat) (hi:T<=i)=>show digF l i=0∧digF m i=0 from by
  unfold digF
  rw[List.getElem?_eq_none (by omega),List.getElem?_eq_none (by omega)]
  exact⟨rfl,rfl⟩)
 have HDB:=hid (fun(i:Nat)=>And.intro (zEJ hd i) (zEJ hd2 i))
 obtain⟨S,hS⟩:=exq (valN l+valN m)
 rw[<- hS]at HEN HLA⊢
 have hT1:n<=T:=by omega
 have hT2:n2<=T:=by omega
 have hT3:T=n∨T=n2:=by omega
 have hT4:T<=400:=by omega
 clear H H2 hd hd2 ht ht2 hn hn2 hS hT
 go_enter Tryz.func76,Tryz.ntmps76
 go_wp2
 go_loopw [5,6,7] (fun o c i wr=>∃(t:Nat) (ol:List Int) (cc:Int),t<=T+1∧i=.int .i64 t∧c=.int .i64 cc∧wr.ownsRow w.heap.size 3 1 o t (ol.map (Value.int .i64))∧Below w.heap.size w wr∧0<=cc∧cc<=1∧
  Hid (ol.length=t∧DigL ol∧valN ol+pw t*cc=valN (l.take t)+valN (m.take t)∧(T<t->cc=0∧pw T<=S))) (fun _ _ i _=>T+2-(intOf i).toNat)
 case atStart=>exact⟨0,[],0,Nat.zero_le _,rfl,rfl,World.ownsRow_nil _ _ _ _,Below.refl _ _,by decide,by decide,hid ⟨rfl,DigL.nil,by simp[valN],fun h=>by omega⟩⟩
 case round=>
  obtain⟨t,ol,cc,ht,rfl,rfl,hown,hbk,hc0,hc1,HI⟩:=hrel
  obtain⟨va,vc,rfl⟩:=zAD hown
  by_cases hgo:t<T∨0<cc
  ·have htT:t<=T:=by
    rcases hgo with h|h
    ·omega
    ·rcases Nat.lt_or_ge T t with c|c
     ·have:=(HI.out.2.2.2 c).1;omega
     ·exact c
   obtain⟨j1,j2,j3,j4,j5⟩:=HST.out t ol cc HI.out.1 HI.out.2.1 ⟨hc0,hc1⟩ HI.out.2.2.1
   have hlast:t=T->cc=1:=fun e=>by omega
   have HC1:=hid (HD1.out wr hbk t)
   have HC2:=hid (HD2.out wr hbk t)
   have HLT:=hid (show T<t+1->(digF l t+digF m t+cc)/1000000000=0∧pw T<=S from fun h=>by
    obtain rfl:t=T:=by omega
    have hcc:=hlast rfl
    subst hcc
    refine⟨?_,HLA.out ol HI.out.2.1 HI.out.1 HI.out.2.2.1⟩
    obtain⟨z1,z2⟩:=HZD.out t (Nat.le_refl _)
    rw[z1,z2];decide)
   obtain⟨⟨bx1,bx2⟩,by1,by2⟩:=HDB.out t
   obtain⟨x,hx⟩:=exq (digF l t)
   obtain⟨y,hy⟩:=exq (digF m t)
   rw[<- hx,<- hy]at j1 j2 j3 j4 j5 HLT
   rw[<- hx]at bx1 bx2
   rw[<- hy]at by1 by2
   rw[<- hx]at HC1
   rw[<- hy]at HC2
   have et:(x+y+cc).tmod 1000000000=(x+y+cc)%1000000000:=Int.tmod_eq_emod_of_nonneg j1
   have ed:(x+y+cc).tdiv 1000000000=(x+y+cc)/1000000000:=Int.tdiv_eq_ediv_of_nonneg j1
   obtain⟨z,hz⟩:=exq (x+y+cc)
   have e1:IntKind.i64.wrap (x+y)=x+y:=IntWalk.i64_in _ (by omega)
   have e2:IntKind.i64.wrap (x+y+cc)=z:=by rw[<- hz];exact IntWalk.i64_in _ (by omega)
   rw[<- hz]at et ed j1 j2 j3 j4 j5 HLT
   obtain⟨r,hr⟩:=exq (z%1000000000)
   obtain⟨q,hq⟩:=exq (z/1000000000)
   rw[<- hr]at et j3 j5
   rw[<- hq]at ed j4 j5 HLT
   have HNX:=hid (show(ol++[r]).length=t+1∧DigL (ol++[r])∧valN (ol++[r])+pw (t+1)*q=valN (l.take (t+1))+valN (m.take (t+1))∧(T<t+1->q=0∧pw T<=S)from⟨by simp[HI.out.1],j3,j5,HLT.out⟩)
   have HO:=hid hown
   have HBK:=hid hbk
   have M1:=hid (show t+1<=maxLen by unfold maxLen;omega)
   have M2:=hid (show(t+1)*8<=140737488355328 by omega)
   have M3:=hid (Nat.le_trans hbk.size (zBS wr (.cells #[.int .i64 r] 3)))
   have hgo3:t<n∨(¬t<n∧t<n2)∨(¬t<n∧¬t<n2∧0<cc):=by omega
   clear hown hbk HI HLT hx hy hz hr hq j1 j2 j3 j5 hlast hgo bx1 bx2 by1 by2 HST HEN HLA HZD HDB
   rcases hgo3 with g1|⟨g1,g2⟩|⟨g1,g2,g3⟩
   all_goals
    go_wp2_with (go_at_call 140;refine HC1.out.mono ?_;rintro e w1 ⟨rfl,rfl⟩;refine Stop.of ?_)
    refine Stop.go ?_
    go_wp2_with (go_at_call 140;refine HC2.out.mono ?_;rintro e w1 ⟨rfl,rfl⟩;refine Stop.of ?_)
    refine Stop.go ?_
    go_wp2_with (at_builtin;refine zAK _ rfl (.tmp 34) (.tmp 37) 35 rfl w.heap.size 3 (.int .i64 0) 1 8 Tryz.underlying35 li_nat rfl Nat.one_pos (.slice va t vc) t _ rfl (HO.out.alloc _) (some ⟨wr.heap.size,0,none⟩) 1 1 [.int .i64 r] rfl rfl zBP (zBL wr _ _) (zDT _) M1.out M2.out M3.out ?_;refine Stop.of ?_)
    refine Stop.go ?_
    intro a3 c3 w3 own3 g3'
    have hB3:Below w.heap.size w w3:=(HBK.out.alloc HBK.out.size _).grown g3' M3.out (fun k hk=>(HO.out.lt k hk).1)
    go_wp2
    refine⟨⟨t+1,ol++[r],q,by omega,by go_num,rfl,?_,hB3,j4.1,j4.2,HNX⟩,by simp[intOf];omega⟩
    simpa using own3
  ·have g1:¬t<n:=by omega
   have g2:¬t<n2:=by omega
   have g3:¬0<cc:=by omega
   obtain rfl:cc=0:=by omega
   obtain⟨i1,i2,i3,i4⟩:=HI.out
   obtain⟨k1,k2⟩:=HEN.out t ol i1 i2 (by omega) ht i3 (fun h=>(i4 h).2)
   obtain⟨a5,c5,e5,hI5,_⟩:=zCO hown i1
   cases e5
   have HF:=hid (show NatV wr (.slice va t vc) (max L K+1) S from⟨va,t,vc,ol,rfl,i1,by omega,hI5,i2,k2,k1⟩)
   have HBK:=hid hbk
   clear hown hbk HI i1 i2 i3 i4 k1 k2 hI5
   go_wp2
   go_ret
   exact⟨_,rfl,HF.out,HBK.out⟩
end
section
open Go.RowKit
theorem minus_c(w:World)(v u:Value)(L K:Nat)(N M:Int)(h:NatV w v L N)(k:NatV w u K M)(hL:L<=1000)(hK:K<=1000)(hle:M<=N):
 Calls Tryz.prog 78 #[v,u] w fun e w'=>∃x,e=.returned x∧NatV w' x L (N-M)∧Below w.heap.size w w':=by
 obtain⟨a,n,cap,l,rfl,hn,hnL,H,hd,ht,rfl⟩:=h
 obtain⟨a2,n2,cap2,m,rfl,hn2,hnK,H2,hd2,ht2,rfl⟩:=k
 have HD2:=hid (fun(X:World) (hX:Below w.heap.size w X) (i:Nat)=>zPJ X a2 n2 cap2 m hn2 (by omega) (H2.below hX) i)
 have HH:=hid (fun(X:World) (hX:Below w.heap.size w X)=>H.below hX)
 have HN:=hid hn
 have hml:=trim_le hd2 hd ht2 hle
 have HDB:=hid (fun(i:Nat)=>And.intro (zEJ hd i) (zEJ hd2 i))
 have HEN:=hid (fun(o:List Int) (c:Int) (ho:o.length=n) (hod:DigL o) (hc:0<=c) (hv:valN o-pw n*c=valN (l.take n)-valN (m.take n))=>show valN o=valN l-valN m from by
  rw[zEG (show l.length<=n by omega),zEG (show m.length<=n by omega)]at hv
  have hb:=hod.bnd
  rw[ho]at hb
  have hp:=zKO n
  rcases Int.lt_or_le 0 c with h|h
  ·have:pw n*1<=pw n*c:=Int.mul_le_mul_of_nonneg_left (by omega) (by omega)
   omega
  ·obtain rfl:c=0:=by omega
   omega)
 have HST:=hid (fun(i:Nat) (o:List Int) (c r c':Int) (ho:o.length=i) (hv:valN o-pw i*c=valN (l.take i)-valN (m.take i)) (hr:r=digF l i-digF m i-c+1000000000*c')=>
  show valN (o++[r])-pw (i+1)*c'=valN (l.take (i+1))-valN (m.take (i+1))from by
  rw[zFN,ho,zEF,zEF,pw]
  subst hr
  grind)
 obtain⟨S,hS⟩:=exq (valN l-valN m)
 rw[<- hS]at HEN⊢
 clear H H2 hd hd2 ht ht2 hn hn2 hS hle hml
 go_enter Tryz.func78,Tryz.ntmps78
 go_wp2
 go_loopw [5,6,11] (fun o c i wr=>∃(t:Nat) (ol:List Int) (cc:Int),t<=n∧i=.int .i64 t∧c=.int .i64 cc∧wr.ownsRow w.heap.size 3 1 o t (ol.map (Value.int .i64))∧Below w.heap.size w wr∧0<=cc∧cc<=1∧
  Hid (ol.length=t∧DigL ol∧valN ol-pw t*cc=valN (l.take t)-valN (m.take t))) (fun _ _ i _=>n-(intOf i).toNat)
 case atStart=>exact⟨0,[],0,Nat.zero_le _,rfl,rfl,World.ownsRow_nil _ _ _ _,Below.refl _ _,by decide,by decide,hid ⟨rfl,DigL.nil,by simp[valN]⟩⟩
 case round=>
  obtain⟨t,ol,cc,ht,rfl,rfl,hown,hbk,hc0,hc1,HI⟩:=hrel
  obtain⟨va,vc,rfl⟩:=zAD hown
  by_cases hlt:t<n
  ·obtain⟨b,o,rfl,hb,hc⟩:=(HH.out wr hbk) t (by rw[HN.out];exact hlt)
   have hv:l[t]?.getD 0=digF l t:=rfl
   rw[hv]at hc
   obtain⟨⟨bx1,bx2⟩,by1,by2⟩:=HDB.out t
   have HS:=hid (fun r c' (hr:r=digF l t-digF m t-cc+1000000000*c')=>HST.out t ol cc r c' HI.out.1 HI.out.2.2 hr)
   have HDG:=hid (fun(X:World) (hX:Below w.heap.size w X)=>HD2.out X hX t)
   obtain⟨x,hx⟩:=exq (digF l t)
   obtain⟨y,hy⟩:=exq (digF m t)
   rw[<- hx]at hc bx1 bx2 HS
   rw[<- hy]at by1 by2 HS HDG
   have e1:IntKind.i64.wrap (x-y)=x-y:=IntWalk.i64_in _ (by omega)
   obtain⟨z,hz⟩:=exq (x-y-cc)
   have e2:IntKind.i64.wrap (x-y-cc)=z:=by rw[<- hz];exact IntWalk.i64_in _ (by omega)
   rw[<- hz]at HS
   have hzb: -1000000000<=z∧z<1000000000:=by omega
   have hO:=hid hown
   have HO:=hid (fun(X:World) (hX:Below wr.heap.size wr X)=>zBH hown hX)
   have HBK:=hid hbk
   have M1:=hid (show t+1<=maxLen by unfold maxLen;omega)
   have M2:=hid (show(t+1)*8<=140737488355328 by omega)
   have i1:(t:Int)<(n:Int):=by omega
   clear hown hv hx hy hz HST HEN HDB bx1 bx2 by1 by2 hO hb
   go_wp2
   go_quiet (first| (go_at_call 140;exact Calls.quiet_of_same ((HDG.out _ (by repeat (first|exact hbk|refine zAH ?_ _))).mono fun _ _ h=>⟨h.1,h.2.symm⟩)))
   have HB2:=hid (zAH HBK.out nq)
   have HO2:=hid (HO.out _ (zAH (Below.refl _ _) nq))
   clear HO hbk hc HDG HH HD2 HBK
   generalize wr.drewN nq=wq at HB2 HO2⊢
   by_cases hneg:z<0
   ·obtain⟨r,hr⟩:=exq (z+1000000000)
    have e3:IntKind.i64.wrap (z+1000000000)=r:=by rw[<- hr];exact IntWalk.i64_in _ (by omega)
    have HNX:=hid (show(ol++[r]).length=t+1∧DigL (ol++[r])∧valN (ol++[r])-pw (t+1)*1=valN (l.take (t+1))-valN (m.take (t+1))from⟨by simp[HI.out.1],HI.out.2.1.snoc (by omega) (by omega),HS.out r 1 (by omega)⟩)
    have M3:=hid (Nat.le_trans HB2.out.size (zBS wq (.cells #[.int .i64 r] 3)))
    clear hr HI HS
    go_wp2_with (at_builtin;refine zAK _ rfl (.tmp 28) (.tmp 30) 35 rfl w.heap.size 3 (.int .i64 0) 1 8 Tryz.underlying35 li_nat rfl Nat.one_pos (.slice va t vc) t _ rfl (HO2.out.alloc _) (some ⟨wq.heap.size,0,none⟩) 1 1 [.int .i64 r] rfl rfl zBP (zBL wq _ _) (zDT _) M1.out M2.out M3.out ?_;refine Stop.of ?_)
    refine Stop.go ?_
    intro a3 c3 w3 own3 g3'
    have hB3:Below w.heap.size w w3:=(HB2.out.alloc HB2.out.size _).grown g3' M3.out (fun k hk=>(HO2.out.lt k hk).1)
    go_wp2
    refine⟨⟨t+1,ol++[r],1,by omega,by go_num,rfl,?_,hB3,by decide,by decide,HNX⟩,by simp[intOf];omega⟩
    simpa using own3
   ·have HNX:=hid (show(ol++[z]).length=t+1∧DigL (ol++[z])∧valN (ol++[z])-pw (t+1)*0=valN (l.take (t+1))-valN (m.take (t+1))from⟨by simp[HI.out.1],HI.out.2.1.snoc (by omega) (by omega),HS.out z 0 (by omega)⟩)
    have M3:=hid (Nat.le_trans HB2.out.size (zBS wq (.cells #[.int .i64 z] 3)))
    clear HI HS
    go_wp2_with (at_builtin;refine zAK _ rfl (.tmp 28) (.tmp 30) 35 rfl w.heap.size 3 (.int .i64 0) 1 8 Tryz.underlying35 li_nat rfl Nat.one_pos (.slice va t vc) t _ rfl (HO2.out.alloc _) (some ⟨wq.heap.size,0,none⟩) 1 1 [.int .i64 z] rfl rfl zBP (zBL wq _ _) (zDT _) M1.out M2.out M3.out ?_;refine Stop.of ?_)
    refine Stop.go ?_
    intro a3 c3 w3 own3 g3'
    have hB3:Below w.heap.size w w3:=(HB2.out.alloc HB2.out.size _).grown g3' M3.out (fun k hk=>(HO2.out.lt k hk).1)
    go_wp2
    refine⟨⟨t+1,ol++[z],0,by omega,by go_num,rfl,?_,hB3,by decide,by decide,HNX⟩,by simp[intOf];omega⟩
    simpa using own3
  ·obtain rfl:t=n:=by omega
   obtain⟨i1,i2,i3⟩:=HI.out
   have hS:=HEN.out ol cc i1 i2 hc0 i3
   obtain⟨a5,c5,e5,hI5,_⟩:=zCO hown i1
   cases e5
   have HT:=hid (trimmed_c wr va t vc ol i1 (by omega) (own_cap hown) hI5 i2)
   rw[hS]at HT
   have HBK:=hid hbk
   clear hown hbk HI i1 i2 i3 hI5 hS HST HEN
   go_wp2_with (go_at_call 141;refine HT.out.mono ?_;rintro e w2 ⟨v2,rfl,hv2,hb2⟩;refine Stop.of ?_)
   refine Stop.go ?_
   have HF:=hid (hv2.le hnL)
   have HB2:=hid (zAA HBK.out hb2)
   clear hv2 hb2
   go_wp2
   go_ret
   exact⟨_,rfl,HF.out,HB2.out⟩
end
section
open Go.RowKit
theorem sp_madeN(w:World)(k:Nat):zBX (w.alloc (.cells (madeCells #[.int .i64 0] k) 3)) w.heap.size (List.replicate k 0):=by
 have e:madeCells #[Value.int .i64 0] k=((List.replicate k (0:Int)).map (Value.int .i64)).toArray:=by
  apply Array.toList_inj.1
  rw[toList_madeCells_one];simp
 exact⟨[],by rw[World.alloc_heap_new,e,List.append_nil]⟩
theorem valN_rep(k:Nat):valN (List.replicate k 0)=0:=by
 induction k with
 |zero=>rfl
 |succ k ih=>rw[List.replicate_succ,valN,ih];rfl
theorem digF_rep(k i:Nat):digF (List.replicate k 0) i=0:=by
 unfold digF
 rcases Nat.lt_or_ge i k with h|h
 ·rw[List.getElem?_eq_getElem (by simpa using h)];simp
 ·rw[List.getElem?_eq_none (by simpa using h)];rfl
theorem digF_set{l:List Int}{k i:Nat}{d:Int}(h:k≠i):digF (l.set k d) i=digF l i:=by
 unfold digF;rw[List.getElem?_set_ne h]
theorem mul_dig{x y:Int}(hx:0<=x∧x<1000000000)(hy:0<=y∧y<1000000000):0<=x*y∧x*y<=999999998000000001:=by
 refine⟨Int.mul_nonneg hx.1 hy.1,?_⟩
 have h1:x*y<=999999999*y:=Int.mul_le_mul_of_nonneg_right (by omega) hy.1
 omega
theorem zLC(w:World)(v u:Value)(L K:Nat)(N M:Int)(h:NatV w v L N)(k:NatV w u K M)(hL:L<=400)(hK:K<=400):
 Calls Tryz.prog 75 #[v,u] w fun e w'=>∃x,e=.returned x∧NatV w' x (L+K) (N*M)∧Below w.heap.size w w':=by
 obtain⟨a,n,cap,l,rfl,hn,hnL,H,hd,ht,rfl⟩:=h
 obtain⟨a2,n2,cap2,m,rfl,hn2,hnK,H2,hd2,ht2,rfl⟩:=k
 have HD2:=hid (fun(X:World) (hX:Below w.heap.size w X) (i:Nat)=>zPJ X a2 n2 cap2 m hn2 (by omega) (H2.below hX) i)
 have HH:=hid (fun(X:World) (hX:Below w.heap.size w X)=>H.below hX)
 have HN:=hid hn
 have HDX:=hid (fun(i:Nat)=>zEJ hd i)
 have HDY:=hid (fun(i:Nat)=>zEJ hd2 i)
 have HZY:=hid (show digF m n2=0 from by unfold digF;rw[List.getElem?_eq_none (by omega)];rfl)
 have HTM:=hid (fun j (hj:n2<=j)=>show valN (m.take j)=valN m from zEG (by omega))
 have HTL:=hid (show valN (l.take n)=valN l from zEG (by omega))
 have HTS:=hid (fun i=>zEF l i)
 have HTS2:=hid (fun i=>zEF m i)
 obtain⟨P,hP⟩:=exq (valN l*valN m)
 rw[<- hP]
 have HP:=hid hP
 obtain⟨Z,hZ⟩:=exq (n+n2)
 have hZ4:Z<=800:=by omega
 have hZL:Z<=L+K:=by omega
 have hmk:∀w,(Instr.makeSlice 35 (.int .i64 ((n:Int)+(n2:Int))) (.int .i64 ((n:Int)+(n2:Int)))).run Tryz.prog w=.ok (.slice (some ⟨w.heap.size,0,none⟩) Z Z) (w.alloc (.cells (madeCells #[.int .i64 0] Z) 3)):=
  fun w=>by rw[show(n:Int)+(n2:Int)=((Z:Nat):Int)by omega];exact run_make_row' 35 3 (.int .i64 0) 8 Tryz.underlying35 li_nat rfl .i64 .i64 Z (by omega) (by omega) w
 obtain⟨g,hg⟩:=exq (w.heap.size)
 obtain⟨wa,hwa⟩:=exq (w.alloc (.cells (madeCells #[.int .i64 0] Z) 3))
 have hba:Below w.heap.size w wa:=by rw[hwa];exact(Below.refl _ _).alloc (Nat.le_refl _) _
 have hsp:zBX wa g (List.replicate Z 0):=by rw[hwa,hg];exact sp_madeN w Z
 have HSP:=hid hsp
 have HBA:=hid hba
 have HG:=hid (show w.heap.size<=g by omega)
 have HZ:=hid hZ
 clear hZ
 clear H H2 hd hd2 ht ht2 hn hn2 hP hsp hba
 go_enter Tryz.func75,Tryz.ntmps75
 go_wp2_with fail
 rw[<- hg,<- hwa]
 clear hg hwa hmk
 go_loopw [19] (fun i wr=>∃(t:Nat) (o:List Int),t<=n∧i=.int .i64 t∧zBX wr g o∧Below w.heap.size w wr∧
  Hid (o.length=Z∧DigL o∧valN o=valN (l.take t)*valN m∧∀q,t+n2<=q->digF o q=0)) (fun i _=>n-(intOf i).toNat)
 case atStart=>exact⟨0,_,Nat.zero_le _,rfl,HSP.out,HBA.out,hid ⟨by simp,fun d h=>by rw[(List.mem_replicate.1 h).2];decide,by rw[valN_rep];simp[valN],fun q _=>digF_rep _ _⟩⟩
 case round=>
  obtain⟨t,o,ht,rfl,hsp,hbk,HI⟩:=hrel
  by_cases hlt:t<n
  ·obtain⟨b,oo,rfl,hb,hc⟩:=(HH.out wr hbk) t (by rw[HN.out];exact hlt)
   have hv:l[t]?.getD 0=digF l t:=rfl
   rw[hv]at hc
   have HX:=hid (HDX.out t)
   have HTX:=hid (HTS.out t)
   obtain⟨x,hx⟩:=exq (digF l t)
   rw[<- hx]at hc HX HTX
   have i1:(t:Int)<(n:Int):=by omega
   have HSP1:=hid hsp
   have HBK1:=hid hbk
   obtain⟨wo,hwo⟩:=exq (wr)
   subst hwo
   clear hv hx hsp hbk hb HSP HBA
   go_wp2
   clear hc
   go_loopw [8,9] (fun c j wr=>∃(s:Nat) (o2:List Int) (cc:Int),s<=n2+1∧j=.int .i64 s∧c=.int .i64 cc∧0<=cc∧cc<1000000000∧zBX wr g o2∧Below w.heap.size w wr∧
    Hid (o2.length=Z∧DigL o2∧valN o2+pw (t+s)*cc=valN (l.take t)*valN m+pw t*(x*valN (m.take s))∧(n2<s->cc=0)∧∀q,(s<=n2->t+n2<=q->digF o2 q=0)∧(t+n2+1<=q->digF o2 q=0))) (fun _ j _=>n2+2-(intOf j).toNat)
   case atStart=>exact⟨0,o,0,Nat.zero_le _,rfl,rfl,by decide,by decide,HSP1.out,HBK1.out,hid ⟨HI.out.1,HI.out.2.1,by rw[HI.out.2.2.1];simp[valN],fun h=>by omega,fun q=>⟨fun _ h=>HI.out.2.2.2 q h,fun h=>HI.out.2.2.2 q (by omega)⟩⟩⟩
   case round=>
    obtain⟨s,o2,cc,hs,rfl,rfl,hc0,hc1,hsp,hbk,HJ⟩:=hrel
    by_cases hgo:s<n2∨0<cc
    ·have hsn:s<=n2:=by
      rcases hgo with h|h
      ·omega
      ·rcases Nat.lt_or_ge n2 s with c|c
       ·have:=HJ.out.2.2.2.1 c;omega
       ·exact c
     have htz:t+s<Z:=by have:=HZ.out;omega
     have hcell:=hsp.cell (j:=t+s) (by rw[HJ.out.1];exact htz)
     have hvd:o2[t+s]?.getD 0=digF o2 (t+s):=rfl
     rw[hvd]at hcell
     have hdb:=zEJ HJ.out.2.1 (t+s)
     have hyb:=HDY.out s
     have hmb:=mul_dig HX.out hyb
     have hdz:s=n2->digF o2 (t+s)=0:=fun e=>(HJ.out.2.2.2.2 (t+s)).1 hsn (by omega)
     have hyz:s=n2->digF m s=0:=fun e=>by rw[e];exact HZY.out
     have HDG:=hid (fun(X:World) (hX:Below w.heap.size w X)=>HD2.out X hX s)
     have HST:=hid (fun(r q:Int) (hrq:digF o2 (t+s)+x*digF m s+cc=r+1000000000*q) (hr0:0<=r) (hr1:r<1000000000) (hqz:s=n2->q=0)=>
      show(o2.set (t+s) r).length=Z∧DigL (o2.set (t+s) r)∧valN (o2.set (t+s) r)+pw (t+(s+1))*q=valN (l.take t)*valN m+pw t*(x*valN (m.take (s+1)))∧(n2<s+1->q=0)∧∀p,(s+1<=n2->t+n2<=p->digF (o2.set (t+s) r) p=0)∧(t+n2+1<=p->digF (o2.set (t+s) r) p=0)from by
      obtain⟨j1,j2,j3,j4,j5⟩:=HJ.out
      refine⟨by simp[j1],j2.set hr0 hr1,?_,fun h=>hqz (by omega),fun p=>⟨fun h1 h2=>?_,fun h=>?_⟩⟩
      ·rw[set_val (by rw[j1];exact htz),<- Nat.add_assoc,pw,HTS2.out s]
       have e1:=pw_add t s
       generalize digF o2 (t+s)=dd at hrq⊢
       generalize digF m s=y at hrq⊢
       generalize valN o2=A at j3⊢
       generalize valN (l.take t)*valN m=B at j3⊢
       generalize valN (m.take s)=C at j3⊢
       rw[e1]at j3⊢
       generalize pw t=p1 at j3⊢
       generalize pw s=p2 at j3⊢
       have e2:cc=r+1000000000*q-dd-x*y:=by omega
       subst e2
       grind
      ·rw[digF_set (by omega)];exact(j5 p).1 (by omega) h2
      ·rw[digF_set (by omega)];exact(j5 p).2 h)
     obtain⟨d,hdd⟩:=exq (digF o2 (t+s))
     obtain⟨y,hy⟩:=exq (digF m s)
     rw[<- hdd]at hcell hdb hdz HST
     rw[<- hy]at hyb hmb hyz HST HDG
     have hj0:0<=d+x*y+cc:=by omega
     have et:(d+x*y+cc).tmod 1000000000=(d+x*y+cc)%1000000000:=Int.tmod_eq_emod_of_nonneg hj0
     have ed:(d+x*y+cc).tdiv 1000000000=(d+x*y+cc)/1000000000:=Int.tdiv_eq_ediv_of_nonneg hj0
     have hxz:s=n2->x*y=0:=fun e=>by rw[hyz e];simp
     obtain⟨xy,hxy⟩:=exq (x*y)
     rw[<- hxy]at hmb hj0 et ed HST hxz
     obtain⟨z,hz⟩:=exq (d+xy+cc)
     rw[<- hz]at hj0 et ed HST
     obtain⟨r,hr⟩:=exq (z%1000000000)
     obtain⟨q,hq⟩:=exq (z/1000000000)
     rw[<- hr]at et
     rw[<- hq]at ed
     have HNX:=hid (HST.out r q (by omega) (by omega) (by omega) (fun e=>by have:=hdz e;have:=hxz e;omega))
     have hq0:0<=q∧q<1000000000:=by omega
     have e1:IntKind.i64.wrap (x*y)=xy:=by rw[<- hxy];exact IntWalk.i64_in _ (by omega)
     have e2:IntKind.i64.wrap (d+xy)=d+xy:=IntWalk.i64_in _ (by omega)
     have e3:IntKind.i64.wrap (d+xy+cc)=z:=by rw[<- hz];exact IntWalk.i64_in _ (by omega)
     have e5:((t:Int)+(s:Int)).toNat=t+s:=by omega
     have i3:(0:Int)<=(t:Int)+(s:Int):=by omega
     have hfz:=hsp.frozen (t+s)
     have i2:(t:Int)+(s:Int)<(Z:Int):=by omega
     have HSS:=hid (fun(X:World) (hX:zBX X g o2)=>hX.set (t+s) (by rw[HJ.out.1];exact htz) r)
     have HSP2:=hid hsp
     have HBK:=hid hbk
     have hgo2:s<n2∨(¬s<n2∧0<cc):=by omega
     clear hvd hdb hyb hmb hdz hyz hxz hdd hy hxy hz hr hq hj0 HST HJ hgo htz hsp
     rcases hgo2 with g1|⟨g1,g2⟩
     all_goals
      go_wp2
      go_quiet (first| (go_at_call 140;exact Calls.quiet_of_same ((HDG.out _ (by repeat (first|exact HBK.out|refine zAH ?_ _))).mono fun _ _ h=>⟨h.1,h.2.symm⟩)))
      have hspd:=HSP2.out.keep (w':=wr.drewN nq) rfl
      have HSPD:=hid hspd
      have hcd:(wr.drewN nq).cell? ⟨g,t+s,none⟩=some (.int .i64 d):=hcell
      have hfd:(wr.drewN nq).frozen? ⟨g,t+s,none⟩=false:=hfz
      have HST2:=hid (HSS.out _ hspd)
      have HBE:=hid (zAC (zAH HBK.out nq) HG.out (t+s) (.int .i64 r))
      clear hspd hcell hfz HSS HDG HSP2 HBK
      generalize wr.drewN nq=wq at HSPD hcd hfd HST2 HBE⊢
      go_wp2
      refine⟨⟨s+1,_,q,by omega,by go_num,rfl,hq0.1,hq0.2,HST2.out,HBE.out,HNX⟩,by simp[intOf];omega⟩
    ·have g1:¬s<n2:=by omega
     have g2:¬0<cc:=by omega
     obtain rfl:cc=0:=by omega
     obtain⟨j1,j2,j3,j4,j5⟩:=HJ.out
     have HNO:=hid (show o2.length=Z∧DigL o2∧valN o2=valN (l.take (t+1))*valN m∧∀q,t+1+n2<=q->digF o2 q=0 from by
      refine⟨j1,j2,?_,fun q hq=>(j5 q).2 (by omega)⟩
      rw[HTM.out s (by omega)]at j3
      rw[HTX.out,Int.add_mul]
      have:pw t*(x*valN m)=pw t*x*valN m:=by rw[Int.mul_assoc]
      omega)
     have HSP2:=hid hsp
     have HBK:=hid hbk
     clear HJ j1 j2 j3 j4 j5 hsp hbk hgo
     go_wp2
     refine⟨⟨t+1,o2,by omega,by go_num,HSP2.out,HBK.out,HNO⟩,by simp[intOf];omega⟩
  ·obtain rfl:t=n:=by omega
   obtain⟨j1,j2,j3,j4⟩:=HI.out
   rw[HTL.out,<- HP.out]at j3
   have HT:=hid (trimmed_c wr (some ⟨g,0,none⟩) Z Z o j1 (by omega) (Nat.le_refl _) hsp.ints j2)
   rw[j3]at HT
   have HBK:=hid hbk
   clear HI j1 j2 j3 j4 hsp hbk
   go_wp2_with (go_at_call 141;refine HT.out.mono ?_;rintro e w2 ⟨v2,rfl,hv2,hb2⟩;refine Stop.of ?_)
   refine Stop.go ?_
   have HF:=hid (hv2.le hZL)
   have HB2:=hid (zAA HBK.out hb2)
   clear hv2 hb2
   go_wp2
   go_ret
   exact⟨_,rfl,HF.out,HB2.out⟩
end
section
open Go.RowKit
theorem NatV.slice{w:World}{v:Value}{L:Nat}{N:Int}(h:NatV w v L N):∃a n cap,v=.slice a n cap:=by
 obtain⟨a,n,cap,l,h1,_⟩:=h
 exact⟨a,n,cap,h1⟩
def RatQ(w:World)(v:Value)(L:Nat)(s:Bool)(N D:Int):Prop:=∃a n c b m e,v=.agg #[.bool s,.slice a n c,.slice b m e]∧NatV w (.slice a n c) L N∧NatV w (.slice b m e) L D
theorem RatQ.below{w w':World}{v:Value}{L:Nat}{s:Bool}{N D:Int}(h:RatQ w v L s N D)(hb:Below w.heap.size w w'):RatQ w' v L s N D:=by
 obtain⟨a,n,c,b,m,e,h1,h2,h3⟩:=h
 exact⟨a,n,c,b,m,e,h1,h2.below hb,h3.below hb⟩
theorem RatQ.le{w:World}{v:Value}{L K:Nat}{s:Bool}{N D:Int}(h:RatQ w v L s N D)(hk:L<=K):RatQ w v K s N D:=by
 obtain⟨a,n,c,b,m,e,h1,h2,h3⟩:=h
 exact⟨a,n,c,b,m,e,h1,h2.le hk,h3.le hk⟩
theorem NatV.keeps3{w:World}{v0:Value}{L:Nat}{N:Int}{g:Nat}{u v z:Value}(h:NatV w v0 L N)(hg:∃c,w.heap[g]? =some (.cells c 37 (0,0))∧∀x:Int,∀o:Nat,c[o]? ≠some (.int .i64 x)):NatV (((w.setCell ⟨g,0,none⟩ u).setCell ⟨g,1,none⟩ v).setCell ⟨g,2,none⟩ z) v0 L N:=by
 obtain⟨a,n,cap,l,h1,h2,h3,h4,h5⟩:=h
 refine⟨a,n,cap,l,h1,h2,h3,fun j hj=>?_,h5⟩
 obtain⟨b,o,e,hb,hc⟩:=h4 j hj
 refine⟨b,o,e,by simpa using hb,?_⟩
 have hne:b≠g:=by
  rintro rfl
  obtain⟨c,hc1,hc2⟩:=hg
  simp[World.cell?,hc1]at hc
  exact hc2 _ _ hc
 rw[World.cell?_setCell_far _ _ _ _ (fun h=>hne h.symm),World.cell?_setCell_far _ _ _ _ (fun h=>hne h.symm),World.cell?_setCell_far _ _ _ _ (fun h=>hne h.symm)]
 exact hc
def zFT(x y:Bool×Int×Int):Bool×Int×Int:=
 if x.1=y.1 then(x.1,x.2.1*y.2.2+y.2.1*x.2.2,x.2.2*y.2.2)
 else if y.2.1*x.2.2<=x.2.1*y.2.2 then(x.1,x.2.1*y.2.2-y.2.1*x.2.2,x.2.2*y.2.2)
 else(y.1,y.2.1*x.2.2-x.2.1*y.2.2,x.2.2*y.2.2)
theorem cmpI_ge{V U:Int}:(0<=cmpI V U)↔U<=V:=by unfold cmpI;split<;>(try split)<;>omega
theorem zOU(w:World)(v u:Value)(L K:Nat)(s t:Bool)(N D M E:Int)(h:RatQ w v L s N D)(k:RatQ w u K t M E)(hL:L<=100)(hK:K<=100):
 Calls Tryz.prog 24 #[v,u] w fun e w'=>∃x,e=.returned x∧RatQ w' x (L+K+1) (zFT (s,N,D) (t,M,E)).1 (zFT (s,N,D) (t,M,E)).2.1 (zFT (s,N,D) (t,M,E)).2.2∧Below w.heap.size w w':=by
 obtain⟨na,nn,nc,da,dn,dc,rfl,hN,hD⟩:=h
 obtain⟨ma,mn,mc,ea,en,ec,rfl,hM,hE⟩:=k
 obtain⟨s0,hs⟩:=exq (w.heap.size)
 obtain⟨wa,hwa⟩:=exq (((w.alloc (.cells #[.bool s,.slice na nn nc,.slice da dn dc] 37)).alloc (.cells #[.bool t,.slice ma mn mc,.slice ea en ec] 37)).alloc (.cells #[.bool false,.slice none 0 0,.slice none 0 0] 37))
 have hba:Below w.heap.size w wa:=by rw[hwa];exact(((Below.refl _ _).alloc (Nat.le_refl _) _).alloc (by simp) _).alloc (by simp;omega) _
 have q0:wa.heap[s0+2]? =some (.cells #[.bool false,.slice none 0 0,.slice none 0 0] 37 (0,0)):=by
  have:=World.alloc_heap_new ((w.alloc (.cells #[.bool s,.slice na nn nc,.slice da dn dc] 37)).alloc (.cells #[.bool t,.slice ma mn mc,.slice ea en ec] 37)) (.cells #[.bool false,.slice none 0 0,.slice none 0 0] 37)
  rw[hwa,hs]
  simpa using this
 have hs1:s0+2<wa.heap.size:=(Array.getElem?_eq_some_iff.1 q0).1
 have hc:∀o v,(#[Value.bool s,.slice na nn nc,.slice da dn dc]:Array Value)[o]? =some v->wa.cell? ⟨s0,o,none⟩=some v:=fun o v h=>by
  rw[hwa,hs,World.cell?_alloc_past _ _ _ (by simp;omega),World.cell?_alloc_past _ _ _ (by simp),World.cell?_alloc_at _ _ _ _ rfl];exact h
 have hc2:∀o v,(#[Value.bool t,.slice ma mn mc,.slice ea en ec]:Array Value)[o]? =some v->wa.cell? ⟨s0+1,o,none⟩=some v:=fun o v h=>by
  rw[hwa,hs,World.cell?_alloc_past _ _ _ (by simp),World.cell?_alloc_at _ _ _ _ (by simp)];exact h
 have HS:=hid (fun(Y:World) (hY:Below wa.heap.size wa Y)=>show Y.cell? ⟨s0,0,none⟩=some (.bool s)∧Y.cell? ⟨s0,1,none⟩=some (.slice na nn nc)∧Y.cell? ⟨s0,2,none⟩=some (.slice da dn dc)∧Y.cell? ⟨s0+1,0,none⟩=some (.bool t)∧Y.cell? ⟨s0+1,1,none⟩=some (.slice ma mn mc)∧Y.cell? ⟨s0+1,2,none⟩=some (.slice ea en ec)from by
  have k0:∀o,Y.cell? ⟨s0,o,none⟩=wa.cell? ⟨s0,o,none⟩:=fun o=>hY.cell (p:=⟨s0,o,none⟩) (by show s0<_;omega)
  have k1:∀o,Y.cell? ⟨s0+1,o,none⟩=wa.cell? ⟨s0+1,o,none⟩:=fun o=>hY.cell (p:=⟨s0+1,o,none⟩) (by show s0+1<_;omega)
  exact⟨(k0 0).trans (hc 0 _ rfl),(k0 1).trans (hc 1 _ rfl),(k0 2).trans (hc 2 _ rfl),(k1 0).trans (hc2 0 _ rfl),(k1 1).trans (hc2 1 _ rfl),(k1 2).trans (hc2 2 _ rfl)⟩)
 have HR:=hid (fun(Y:World) (hY:Below wa.heap.size wa Y)=>show Y.cell? ⟨s0+2,0,none⟩=some (.bool false)∧Y.cell? ⟨s0+2,1,none⟩=some (.slice none 0 0)∧Y.cell? ⟨s0+2,2,none⟩=some (.slice none 0 0)∧(∀o,Y.frozen? ⟨s0+2,o,none⟩=false)∧s0+2<Y.heap.size from by
  have h1:=(hY.block (s0+2) hs1).trans q0
  exact⟨by simp[World.cell?,h1],by simp[World.cell?,h1],by simp[World.cell?,h1],fun o=>by simp[World.frozen?,h1],(Array.getElem?_eq_some_iff.1 h1).1⟩)
 have HFIN:=hid (fun(Y:World) (hY:Below wa.heap.size wa Y) (x y z:Value)=>show Below w.heap.size w (((Y.setCell ⟨s0+2,0,none⟩ x).setCell ⟨s0+2,1,none⟩ y).setCell ⟨s0+2,2,none⟩ z)from
  zAC (zAC (zAC (zAA hba hY) (by omega) 0 x) (by omega) 1 y) (by omega) 2 z)
 have HNN:=hid (fun(Y:World) (hY:Below wa.heap.size wa Y)=>And.intro (hN.below (zAA hba hY)) (And.intro (hD.below (zAA hba hY)) (And.intro (hM.below (zAA hba hY)) (hE.below (zAA hba hY)))))
 have HNG:=hid (fun(Y:World) (hY:Below wa.heap.size wa Y)=>show ∃c,Y.heap[s0+2]? =some (.cells c 37 (0,0))∧∀x:Int,∀o:Nat,c[o]? ≠some (.int .i64 x)from
  ⟨_,(hY.block (s0+2) hs1).trans q0,fun x o=>by match o with|0=>simp|1=>simp|2=>simp|o+3=>simp⟩)
 clear hba q0 hs1 hc hc2 hN hD hM hE
 go_enter Tryz.func24,Tryz.ntmps24
 go_wp2_with fail
 rw[<- hs,<- hwa]
 clear hs hwa
 refine zAF (fun j' X=>wAll j'=true->X.cell? ⟨s0,0,none⟩=some (.bool s)∧X.cell? ⟨s0,1,none⟩=some (.slice na nn nc)∧X.cell? ⟨s0,2,none⟩=some (.slice da dn dc)∧X.cell? ⟨s0+1,0,none⟩=some (.bool t)∧X.cell? ⟨s0+1,1,none⟩=some (.slice ma mn mc)∧X.cell? ⟨s0+1,2,none⟩=some (.slice ea en ec)) (by kernel_rfl) ?_
 have hbd:Below wa.heap.size wa wa.drew:=(Below.refl _ _).drew
 generalize wa.drew=wd at hbd⊢
 refine AnyT.tD (i:=0) (v:=.pointer (some ⟨s0,1,none⟩)) rfl rfl (by rintro w' ⟨y1,y2,y3,y4,y5,y6⟩;go_simp) (HS.out _ hbd) ?_;go_frame
 refine AnyT.tD (i:=1) (v:=.slice na nn nc) rfl rfl (by rintro w' ⟨y1,y2,y3,y4,y5,y6⟩;go_simp) (HS.out _ hbd) ?_;go_frame
 refine AnyT.tD (i:=2) (v:=.pointer (some ⟨s0+1,2,none⟩)) rfl rfl (by rintro w' ⟨y1,y2,y3,y4,y5,y6⟩;go_simp) (HS.out _ hbd) ?_;go_frame
 refine AnyT.tD (i:=3) (v:=.slice ea en ec) rfl rfl (by rintro w' ⟨y1,y2,y3,y4,y5,y6⟩;go_simp) (HS.out _ hbd) ?_;go_frame
 refine AnyT.tD (i:=5) (v:=.pointer (some ⟨s0+1,1,none⟩)) rfl rfl (by rintro w' ⟨y1,y2,y3,y4,y5,y6⟩;go_simp) (HS.out _ hbd) ?_;go_frame
 refine AnyT.tD (i:=6) (v:=.slice ma mn mc) rfl rfl (by rintro w' ⟨y1,y2,y3,y4,y5,y6⟩;go_simp) (HS.out _ hbd) ?_;go_frame
 refine AnyT.tD (i:=7) (v:=.pointer (some ⟨s0,2,none⟩)) rfl rfl (by rintro w' ⟨y1,y2,y3,y4,y5,y6⟩;go_simp) (HS.out _ hbd) ?_;go_frame
 refine AnyT.tD (i:=8) (v:=.slice da dn dc) rfl rfl (by rintro w' ⟨y1,y2,y3,y4,y5,y6⟩;go_simp) (HS.out _ hbd) ?_;go_frame
 refine AnyT.tD (i:=10) (v:=.pointer (some ⟨s0,2,none⟩)) rfl rfl (by rintro w' ⟨y1,y2,y3,y4,y5,y6⟩;go_simp) (HS.out _ hbd) ?_;go_frame
 refine AnyT.tD (i:=11) (v:=.slice da dn dc) rfl rfl (by rintro w' ⟨y1,y2,y3,y4,y5,y6⟩;go_simp) (HS.out _ hbd) ?_;go_frame
 refine AnyT.tD (i:=12) (v:=.pointer (some ⟨s0+1,2,none⟩)) rfl rfl (by rintro w' ⟨y1,y2,y3,y4,y5,y6⟩;go_simp) (HS.out _ hbd) ?_;go_frame
 refine AnyT.tD (i:=13) (v:=.slice ea en ec) rfl rfl (by rintro w' ⟨y1,y2,y3,y4,y5,y6⟩;go_simp) (HS.out _ hbd) ?_;go_frame
 refine AnyT.nx (i:=4) rfl ?_
 go_wp2_with (go_at_call 75;refine(zLC _ _ _ L K _ _ (HNN.out _ hbd).1 (HNN.out _ hbd).2.2.2 (by omega) (by omega)).mono ?_;rintro e w1 ⟨vw1,rfl,hvw1,hbw1⟩;refine Stop.of ?_)
 refine Stop.go ?_
 obtain⟨aw1,nw1,cw1,rfl⟩:=hvw1.slice
 have HVw1:=hid hvw1
 have HB1:=hid (zAA hbd hbw1)
 have HBXw1:=hid hbw1
 clear hvw1 hbw1
 go_wp2
 refine⟨fun _=>HS.out _ HB1.out,?_⟩
 refine AnyT.nx (i:=9) rfl ?_
 go_wp2_with (go_at_call 75;refine(zLC _ _ _ K L _ _ (HNN.out _ HB1.out).2.2.1 (HNN.out _ HB1.out).2.1 (by omega) (by omega)).mono ?_;rintro e w2 ⟨vw2,rfl,hvw2,hbw2⟩;refine Stop.of ?_)
 refine Stop.go ?_
 obtain⟨aw2,nw2,cw2,rfl⟩:=hvw2.slice
 have HVw2:=hid hvw2
 have HB2:=hid (zAA HB1.out hbw2)
 have HBXw2:=hid hbw2
 clear hvw2 hbw2
 go_wp2
 refine⟨fun _=>HS.out _ HB2.out,?_⟩
 refine AnyT.nx (i:=14) rfl ?_
 go_wp2_with (go_at_call 75;refine(zLC _ _ _ L K _ _ (HNN.out _ HB2.out).2.1 (HNN.out _ HB2.out).2.2.2 (by omega) (by omega)).mono ?_;rintro e w3 ⟨vw3,rfl,hvw3,hbw3⟩;refine Stop.of ?_)
 refine Stop.go ?_
 obtain⟨aw3,nw3,cw3,rfl⟩:=hvw3.slice
 have HVw3:=hid hvw3
 have HB3:=hid (zAA HB2.out hbw3)
 have HBXw3:=hid hbw3
 clear hvw3 hbw3
 go_wp2
 refine⟨fun _=>HS.out _ HB3.out,?_⟩
 refine AnyT.tD (i:=15) (v:=.slice aw1 nw1 cw1) rfl rfl (by rintro w' ⟨y1,y2,y3,y4,y5,y6⟩;go_simp) (HS.out _ HB3.out) ?_;go_frame
 refine AnyT.tD (i:=16) (v:=.slice aw2 nw2 cw2) rfl rfl (by rintro w' ⟨y1,y2,y3,y4,y5,y6⟩;go_simp) (HS.out _ HB3.out) ?_;go_frame
 refine AnyT.tD (i:=17) (v:=.slice aw3 nw3 cw3) rfl rfl (by rintro w' ⟨y1,y2,y3,y4,y5,y6⟩;go_simp) (HS.out _ HB3.out) ?_;go_frame
 refine AnyT.done (by kernel_rfl) ?_ _
 have HNE:=hid ((HVw1.out.below HBXw2.out).below HBXw3.out)
 have HMD:=hid (((HVw2.out.below HBXw3.out)).le (show K+L<=L+K by omega))
 have HDE:=hid HVw3.out
 obtain⟨y1,y2,y3,y4,y5,y6⟩:=HS.out _ HB3.out
 clear HVw1 HVw2 HVw3 HBXw2 HBXw1 HBXw3 HB1 HB2 hbd
 have HB:=hid HB3.out
 clear HB3 y1 y2 y3 y4 y5 y6
 by_cases hst:s=t
 ·subst hst
  have HQ:=hid (show zFT (s,N,D) (s,M,E)=(s,N*E+M*D,D*E)from if_pos rfl)
  have hsb:(s==s)=true:=by simp
  obtain⟨y1,y2,y3,y4,y5,y6⟩:=HS.out _ HB.out
  go_wp2
  refine zAF (fun j' X=>decide (j'<=6)=true->X.cell? ⟨s0,0,none⟩=some (.bool s)) (by kernel_rfl) ?_
  obtain⟨wq,hwq⟩:=exq (w3.drew)
  have hbq:Below wa.heap.size wa wq:=by rw[hwq];exact HB.out.drew
  have hb0:Below w3.heap.size w3 wq:=by rw[hwq];exact(Below.refl _ _).drew
  rw[<- hwq]
  clear hwq
  refine AnyT.tD (i:=0) (v:=.pointer (some ⟨s0,0,none⟩)) rfl rfl (by rintro w' y1;go_simp) ((HS.out _ hbq).1) ?_;go_frame
  refine AnyT.tD (i:=1) (v:=.bool s) rfl rfl (by rintro w' y1;go_simp) ((HS.out _ hbq).1) ?_;go_frame
  refine AnyT.tD (i:=2) (v:=.slice aw1 nw1 cw1) rfl rfl (by rintro w' y1;go_simp) ((HS.out _ hbq).1) ?_;go_frame
  refine AnyT.tD (i:=3) (v:=.slice aw2 nw2 cw2) rfl rfl (by rintro w' y1;go_simp) ((HS.out _ hbq).1) ?_;go_frame
  refine AnyT.tD (i:=5) (v:=.slice aw3 nw3 cw3) rfl rfl (by rintro w' y1;go_simp) ((HS.out _ hbq).1) ?_;go_frame
  refine AnyT.nx (i:=4) rfl ?_
  go_wp2_with (go_at_call 76;refine(plus_c _ _ _ (L+K) (L+K) _ _ (HNE.out.below hb0) (HMD.out.below hb0) (by omega) (by omega)).mono ?_;rintro e w5 ⟨v5,rfl,hv5,hb5⟩;refine Stop.of ?_)
  refine Stop.go ?_
  obtain⟨a5,n5,c5,rfl⟩:=hv5.slice
  have HV5:=hid hv5
  have HB5:=hid (zAA hbq hb5)
  have HDE5:=hid ((HDE.out.below hb0).below hb5)
  obtain⟨x0,x1,x2,hfz,hlt⟩:=HR.out _ HB5.out
  have f0:=hfz 0
  have f1:=hfz 1
  have f2:=hfz 2
  have HFI:=hid (HFIN.out _ HB5.out (.bool s) (.slice a5 n5 c5) (.slice aw3 nw3 cw3))
  have HKN:=hid (hv5.keeps3 (g:=s0+2) (u:=.bool s) (v:=.slice a5 n5 c5) (z:=.slice aw3 nw3 cw3) (HNG.out _ HB5.out))
  have HKD:=hid (HDE5.out.keeps3 (g:=s0+2) (u:=.bool s) (v:=.slice a5 n5 c5) (z:=.slice aw3 nw3 cw3) (HNG.out _ HB5.out))
  clear hv5 hb5 hfz hb0
  go_wp2
  refine⟨fun _=>(HS.out _ HB5.out).1,?_⟩
  refine AnyT.tD (i:=6) (v:=.agg #[.bool s,.slice a5 n5 c5,.slice aw3 nw3 cw3]) rfl rfl (by rintro w' y1;go_simp) ((HS.out _ HB5.out).1) ?_;go_frame
  refine AnyT.nx (i:=7) rfl ?_
  go_wp2
  refine⟨fun h=>absurd h (by decide),?_⟩
  refine AnyT.done (by kernel_rfl) ?_ _
  go_wp2
  refine bodyPost_ret (v:=.agg #[.bool s,.slice a5 n5 c5,.slice aw3 nw3 cw3]) ?_ rfl ⟨_,rfl,?_,HFI.out⟩
  ·simp[results,Tryz.results24,go_sem,x0,x1,x2,f0,f1,f2,hlt]
  ·rw[HQ.out];exact⟨_,_,_,_,_,_,rfl,HKN.out.le (by omega),HKD.out.le (by omega)⟩
 ·have hsb:(s==t)=false:=by simpa using hst
  have HOR:=hid (order_c w3 _ _ (L+K) (L+K) _ _ HNE.out HMD.out (by omega) (by omega))
  obtain⟨y1,y2,y3,y4,y5,y6⟩:=HS.out _ HB.out
  obtain⟨cv,hcv⟩:=exq (cmpI (N*E) (M*D))
  rw[<- hcv]at HOR
  have hge:0<=cv↔M*D<=N*E:=by rw[hcv];exact cmpI_ge
  have HGE:=hid hge
  have HST:=hid hst
  clear hcv hge hst
  go_wp2_with (go_at_call 77;refine HOR.out.mono ?_;rintro e w4 ⟨rfl,hb4⟩;refine Stop.of ?_)
  refine Stop.go ?_
  have HNE4:=hid (HNE.out.below hb4)
  have HMD4:=hid (HMD.out.below hb4)
  have HDE4:=hid (HDE.out.below hb4)
  have HB4:=hid (zAA HB.out hb4)
  clear HNE HMD HDE HB HOR hb4
  have HB:=HB4
  have HDE:=HDE4
  clear HB4 HDE4
  obtain⟨y1,y2,y3,y4,y5,y6⟩:=HS.out _ HB.out
  by_cases hcc:0<=cv
  ·have hle:=HGE.out.1 hcc
   have HQ:=hid (show zFT (s,N,D) (t,M,E)=(s,N*E-M*D,D*E)from by unfold zFT;rw[if_neg HST.out,if_pos hle])
   have HLE:=hid hle
   clear hle
   go_wp2
   refine zAF (fun j' X=>decide (j'<=6)=true->X.cell? ⟨s0,0,none⟩=some (.bool s)) (by kernel_rfl) ?_
   obtain⟨wq,hwq⟩:=exq (w4.drew)
   have hbq:Below wa.heap.size wa wq:=by rw[hwq];exact HB.out.drew
   have hb0:Below w4.heap.size w4 wq:=by rw[hwq];exact(Below.refl _ _).drew
   rw[<- hwq]
   clear hwq
   refine AnyT.tD (i:=0) (v:=.pointer (some ⟨s0,0,none⟩)) rfl rfl (by rintro w' y1;go_simp) ((HS.out _ hbq).1) ?_;go_frame
   refine AnyT.tD (i:=1) (v:=.bool s) rfl rfl (by rintro w' y1;go_simp) ((HS.out _ hbq).1) ?_;go_frame
   refine AnyT.tD (i:=2) (v:=.slice aw1 nw1 cw1) rfl rfl (by rintro w' y1;go_simp) ((HS.out _ hbq).1) ?_;go_frame
   refine AnyT.tD (i:=3) (v:=.slice aw2 nw2 cw2) rfl rfl (by rintro w' y1;go_simp) ((HS.out _ hbq).1) ?_;go_frame
   refine AnyT.tD (i:=5) (v:=.slice aw3 nw3 cw3) rfl rfl (by rintro w' y1;go_simp) ((HS.out _ hbq).1) ?_;go_frame
   refine AnyT.nx (i:=4) rfl ?_
   go_wp2_with (go_at_call 78;refine(minus_c _ _ _ (L+K) (L+K) _ _ (HNE4.out.below hb0) (HMD4.out.below hb0) (by omega) (by omega) HLE.out).mono ?_;rintro e w5 ⟨v5,rfl,hv5,hb5⟩;refine Stop.of ?_)
   refine Stop.go ?_
   obtain⟨a5,n5,c5,rfl⟩:=hv5.slice
   have HV5:=hid hv5
   have HB5:=hid (zAA hbq hb5)
   have HDE5:=hid ((HDE.out.below hb0).below hb5)
   obtain⟨x0,x1,x2,hfz,hlt⟩:=HR.out _ HB5.out
   have f0:=hfz 0
   have f1:=hfz 1
   have f2:=hfz 2
   have HFI:=hid (HFIN.out _ HB5.out (.bool s) (.slice a5 n5 c5) (.slice aw3 nw3 cw3))
   have HKN:=hid (hv5.keeps3 (g:=s0+2) (u:=.bool s) (v:=.slice a5 n5 c5) (z:=.slice aw3 nw3 cw3) (HNG.out _ HB5.out))
   have HKD:=hid (HDE5.out.keeps3 (g:=s0+2) (u:=.bool s) (v:=.slice a5 n5 c5) (z:=.slice aw3 nw3 cw3) (HNG.out _ HB5.out))
   clear hv5 hb5 hfz hb0
   go_wp2
   refine⟨fun _=>(HS.out _ HB5.out).1,?_⟩
   refine AnyT.tD (i:=6) (v:=.agg #[.bool s,.slice a5 n5 c5,.slice aw3 nw3 cw3]) rfl rfl (by rintro w' y1;go_simp) ((HS.out _ HB5.out).1) ?_;go_frame
   refine AnyT.nx (i:=7) rfl ?_
   go_wp2
   refine⟨fun h=>absurd h (by decide),?_⟩
   refine AnyT.done (by kernel_rfl) ?_ _
   go_wp2
   refine bodyPost_ret (v:=.agg #[.bool s,.slice a5 n5 c5,.slice aw3 nw3 cw3]) ?_ rfl ⟨_,rfl,?_,HFI.out⟩
   ·simp[results,Tryz.results24,go_sem,x0,x1,x2,f0,f1,f2,hlt]
   ·rw[HQ.out];exact⟨_,_,_,_,_,_,rfl,HKN.out.le (by omega),HKD.out.le (by omega)⟩
  ·have hle:¬M*D<=N*E:=fun h=>hcc (HGE.out.2 h)
   have HQ:=hid (show zFT (s,N,D) (t,M,E)=(t,M*D-N*E,D*E)from by unfold zFT;rw[if_neg HST.out,if_neg hle])
   have HLE:=hid hle
   clear hle
   go_wp2
   refine zAF (fun j' X=>decide (j'<=6)=true->X.cell? ⟨s0+1,0,none⟩=some (.bool t)) (by kernel_rfl) ?_
   obtain⟨wq,hwq⟩:=exq (w4.drew)
   have hbq:Below wa.heap.size wa wq:=by rw[hwq];exact HB.out.drew
   have hb0:Below w4.heap.size w4 wq:=by rw[hwq];exact(Below.refl _ _).drew
   rw[<- hwq]
   clear hwq
   refine AnyT.tD (i:=0) (v:=.pointer (some ⟨s0+1,0,none⟩)) rfl rfl (by rintro w' y1;go_simp) ((HS.out _ hbq).2.2.2.1) ?_;go_frame
   refine AnyT.tD (i:=1) (v:=.bool t) rfl rfl (by rintro w' y1;go_simp) ((HS.out _ hbq).2.2.2.1) ?_;go_frame
   refine AnyT.tD (i:=2) (v:=.slice aw2 nw2 cw2) rfl rfl (by rintro w' y1;go_simp) ((HS.out _ hbq).2.2.2.1) ?_;go_frame
   refine AnyT.tD (i:=3) (v:=.slice aw1 nw1 cw1) rfl rfl (by rintro w' y1;go_simp) ((HS.out _ hbq).2.2.2.1) ?_;go_frame
   refine AnyT.tD (i:=5) (v:=.slice aw3 nw3 cw3) rfl rfl (by rintro w' y1;go_simp) ((HS.out _ hbq).2.2.2.1) ?_;go_frame
   refine AnyT.nx (i:=4) rfl ?_
   go_wp2_with (go_at_call 78;refine(minus_c _ _ _ (L+K) (L+K) _ _ (HMD4.out.below hb0) (HNE4.out.below hb0) (by omega) (by omega) (by have:=HLE.out;omega)).mono ?_;rintro e w5 ⟨v5,rfl,hv5,hb5⟩;refine Stop.of ?_)
   refine Stop.go ?_
   obtain⟨a5,n5,c5,rfl⟩:=hv5.slice
   have HV5:=hid hv5
   have HB5:=hid (zAA hbq hb5)
   have HDE5:=hid ((HDE.out.below hb0).below hb5)
   obtain⟨x0,x1,x2,hfz,hlt⟩:=HR.out _ HB5.out
   have f0:=hfz 0
   have f1:=hfz 1
   have f2:=hfz 2
   have HFI:=hid (HFIN.out _ HB5.out (.bool t) (.slice a5 n5 c5) (.slice aw3 nw3 cw3))
   have HKN:=hid (hv5.keeps3 (g:=s0+2) (u:=.bool t) (v:=.slice a5 n5 c5) (z:=.slice aw3 nw3 cw3) (HNG.out _ HB5.out))
   have HKD:=hid (HDE5.out.keeps3 (g:=s0+2) (u:=.bool t) (v:=.slice a5 n5 c5) (z:=.slice aw3 nw3 cw3) (HNG.out _ HB5.out))
   clear hv5 hb5 hfz hb0
   go_wp2
   refine⟨fun _=>(HS.out _ HB5.out).2.2.2.1,?_⟩
   refine AnyT.tD (i:=6) (v:=.agg #[.bool t,.slice a5 n5 c5,.slice aw3 nw3 cw3]) rfl rfl (by rintro w' y1;go_simp) ((HS.out _ HB5.out).2.2.2.1) ?_;go_frame
   refine AnyT.nx (i:=7) rfl ?_
   go_wp2
   refine⟨fun h=>absurd h (by decide),?_⟩
   refine AnyT.done (by kernel_rfl) ?_ _
   go_wp2
   refine bodyPost_ret (v:=.agg #[.bool t,.slice a5 n5 c5,.slice aw3 nw3 cw3]) ?_ rfl ⟨_,rfl,?_,HFI.out⟩
   ·simp[results,Tryz.results24,go_sem,x0,x1,x2,f0,f1,f2,hlt]
   ·rw[HQ.out];exact⟨_,_,_,_,_,_,rfl,HKN.out.le (by omega),HKD.out.le (by omega)⟩
end
section
open Go.RowKit
theorem cmpI_sub{V U V' U':Int}(h:V-U=V'-U'):cmpI V U=cmpI V' U':=by
 unfold cmpI
 by_cases h1:V<U
 ·rw[if_pos h1,if_pos (show V'<U' by omega)]
 ·rw[if_neg h1,if_neg (show ¬V'<U' by omega)]
  by_cases h2:V=U
  ·rw[if_pos h2,if_pos (show V'=U' by omega)]
  ·rw[if_neg h2,if_neg (show ¬V'=U' by omega)]
theorem cmp_lt{an A bn B:Int}(hA:1<=A)(hB:1<=B)(h:an/A<bn/B):an*B<bn*A:=by
 have e0:an<(an/A+1)*A:=Int.lt_ediv_add_one_mul_self an (by omega)
 have e1:(an/A+1)*A<=bn/B*A:=Int.mul_le_mul_of_nonneg_right (by omega) (by omega)
 have e2:an*B<bn/B*A*B:=Int.mul_lt_mul_of_pos_right (by omega) (by omega)
 have e3:bn/B*B*A<=bn*A:=Int.mul_le_mul_of_nonneg_right (Int.ediv_mul_le bn (by omega)) (by omega)
 have e4:bn/B*A*B=bn/B*B*A:=by grind
 omega
theorem zHW(d:Int):1<=dF d:=by unfold dF;split<;>omega
theorem cmpR_lt{an ad bn bd:Int}(h:an/dF ad<bn/dF bd):cmpR an ad bn bd= -1:=by
 unfold cmpR cmpI
 rw[if_pos (cmp_lt (zHW ad) (zHW bd) h)]
theorem cmpR_gt{an ad bn bd:Int}(h:bn/dF bd<an/dF ad):cmpR an ad bn bd=1:=by
 have:=cmp_lt (zHW bd) (zHW ad) h
 unfold cmpR cmpI
 rw[if_neg (by omega),if_neg (by omega)]
theorem cmpR_eq{an ad bn bd:Int}(h:an/dF ad=bn/dF bd):cmpR an ad bn bd=cmpI (an%dF ad*dF bd) (bn%dF bd*dF ad):=by
 unfold cmpR
 refine cmpI_sub ?_
 have e1:=Int.mul_ediv_add_emod an (dF ad)
 have e2:=Int.mul_ediv_add_emod bn (dF bd)
 rw[<- h]at e2
 generalize an/dF ad=p at e1 e2
 generalize an%dF ad=x at e1⊢
 generalize bn%dF bd=y at e2⊢
 generalize dF ad=A at e1 e2⊢
 generalize dF bd=B at e1 e2⊢
 subst e1
 subst e2
 grind
theorem cmpR_rec{an ad bn bd:Int}(h:an/dF ad=bn/dF bd)(hx:an%dF ad≠0)(hy:bn%dF bd≠0):cmpR an ad bn bd=cmpR (dF bd) (bn%dF bd) (dF ad) (an%dF ad):=by
 rw[cmpR_eq h]
 have h1:=Int.emod_nonneg an (show dF ad≠0 by have:=zHW ad;omega)
 have h2:=Int.emod_nonneg bn (show dF bd≠0 by have:=zHW bd;omega)
 unfold cmpR
 rw[show dF (an%dF ad)=an%dF ad by unfold dF;rw[if_neg];unfold dF at hx h1;omega,show dF (bn%dF bd)=bn%dF bd by unfold dF;rw[if_neg];unfold dF at hy h2;omega,Int.mul_comm (dF bd),Int.mul_comm (dF ad)]
theorem zNP:∀(s:Nat) (w:World) (an ad bn bd:Int),F64 an->F64 ad->F64 bn->F64 bd->(dF ad+dF bd).toNat<=s->
 Calls Tryz.prog 31 #[.agg #[.int .i64 an,.int .i64 ad],.agg #[.int .i64 bn,.int .i64 bd]] w fun e w'=>e=.returned (.int .i64 (cmpR an ad bn bd))∧Below w.heap.size w w':=by
 intro s
 induction s with
 |zero=>
  intro w an ad bn bd h1 h2 h3 h4 hs
  have hA1:=zHW ad
  have hB1:=zHW bd
  omega
 |succ s ih=>
  intro w an ad bn bd h1 h2 h3 h4 hs
  have hA1:=zHW ad
  have hB1:=zHW bd
  have hAd:dF ad=if ad<1 then 1 else ad:=rfl
  have hBd:dF bd=if bd<1 then 1 else bd:=rfl
  have fA:1<=dF ad∧dF ad<=9223372036854775807:=by unfold dF;unfold F64 at h2;split<;>omega
  have fB:1<=dF bd∧dF bd<=9223372036854775807:=by unfold dF;unfold F64 at h4;split<;>omega
  have HD1:=hid (fun X=>down_c X an (dF ad) h1 fA)
  have HD2:=hid (fun X=>down_c X bn (dF bd) h3 fB)
  have kx0:=Int.emod_nonneg an (show dF ad≠0 by omega)
  have ky0:=Int.emod_nonneg bn (show dF bd≠0 by omega)
  have kx1:=Int.emod_lt_of_pos an (show 0<dF ad by omega)
  have ky1:=Int.emod_lt_of_pos bn (show 0<dF bd by omega)
  have HLT:=hid (fun h=>cmpR_lt (an:=an) (ad:=ad) (bn:=bn) (bd:=bd) h)
  have HGT:=hid (fun h=>cmpR_gt (an:=an) (ad:=ad) (bn:=bn) (bd:=bd) h)
  have HEQ:=hid (fun h=>cmpR_eq (an:=an) (ad:=ad) (bn:=bn) (bd:=bd) h)
  have HRE:=hid (fun h hx hy=>cmpR_rec (an:=an) (ad:=ad) (bn:=bn) (bd:=bd) h hx hy)
  obtain⟨C,hC⟩:=exq (cmpR an ad bn bd)
  rw[<- hC]at HLT HGT HEQ HRE⊢
  clear hC
  have HMA:=hid (show(if ad<1 then(1:Int)else ad)=dF ad from rfl)
  have HMB:=hid (show(if bd<1 then(1:Int)else bd)=dF bd from rfl)
  have HBL:=hid (show Below w.heap.size w ((w.alloc (.cells #[.int .i64 an,.int .i64 ad] 29)).alloc (.cells #[.int .i64 bn,.int .i64 bd] 29))from((Below.refl _ _).alloc (Nat.le_refl _) _).alloc (by simp) _)
  clear HMA HMB
  by_cases c1:ad<1<;>by_cases c2:bd<1
  ·have eA:dF ad=1:=by unfold dF;rw[if_pos c1]
   have eB:dF bd=1:=by unfold dF;rw[if_pos c2]
   rw[eA]at HD1 HLT HGT HEQ HRE kx0 kx1 fA hs
   rw[eB]at HD2 HLT HGT HEQ HRE ky0 ky1 fB hs
   obtain⟨p,hp⟩:=exq (an/1)
   obtain⟨q,hq⟩:=exq (bn/1)
   obtain⟨x,hx⟩:=exq (an%1)
   obtain⟨y,hy⟩:=exq (bn%1)
   rw[<- hp,<- hx]at HD1
   rw[<- hq,<- hy]at HD2
   rw[<- hp,<- hq]at HLT HGT HEQ HRE
   rw[<- hx,<- hy]at HEQ HRE
   rw[<- hx]at kx0 kx1
   rw[<- hy]at ky0 ky1
   have HIH:=hid (fun(X:World) (hx0:x≠0) (hy0:y≠0)=>ih X 1 y 1 x (by unfold F64;omega) (by unfold F64;omega) (by unfold F64;omega) (by unfold F64;omega) (by unfold dF;rw[if_neg (by omega),if_neg (by omega)];omega))
   have hm:(p<q∧C= -1)∨(q<p∧C=1)∨(p=q∧C=cmpI (x*1) (y*1)∧(x≠0->y≠0->C=cmpR 1 y 1 x)):=by
    rcases Int.lt_trichotomy p q with h|h|h
    ·exact .inl ⟨h,HLT.out h⟩
    ·exact .inr (.inr ⟨h,HEQ.out h,HRE.out h⟩)
    ·exact .inr (.inl ⟨h,HGT.out h⟩)
   have hc0:x=0->y=0->cmpI (x*1) (y*1)=0:=fun e1 e2=>by subst e1;subst e2;unfold cmpI;simp
   have hc1:x=0->y≠0->cmpI (x*1) (y*1)= -1:=fun e1 e2=>by
    subst e1
    have:0<y*1:=Int.mul_pos (by omega) (by omega)
    unfold cmpI;rw[if_pos (by omega)]
   have hc2:x≠0->y=0->cmpI (x*1) (y*1)=1:=fun e1 e2=>by
    subst e2
    have:0<x*1:=Int.mul_pos (by omega) (by omega)
    unfold cmpI;rw[if_neg (by omega),if_neg (by omega)]
   have HM:=hid hm
   have HC0:=hid hc0
   have HC1:=hid hc1
   have HC2:=hid hc2
   clear eA eB hp hq hx hy hAd hBd hm hc0 hc1 hc2 HLT HGT HEQ HRE ih
   go_enter Tryz.func31,Tryz.ntmps31
   go_wp2_with (go_at_call 92;refine(HD1.out _).mono ?_;rintro e w1 ⟨rfl,k1,rfl⟩;refine Stop.of ?_)
   refine Stop.go ?_
   go_wp2_with (go_at_call 92;refine(HD2.out _).mono ?_;rintro e w2 ⟨rfl,k2,rfl⟩;refine Stop.of ?_)
   refine Stop.go ?_
   clear HD1 HD2
   rcases HM.out with⟨hl,rfl⟩|⟨hl,rfl⟩|⟨rfl,hC,hR⟩
   ·have hpb:(p !=q)=true:=by simp;omega
    clear HM
    go_wp2
    go_ret
    exact⟨rfl,zAH HBL.out _⟩
   ·have hpb:(p !=q)=true:=by simp;omega
    have hnl:¬p<q:=by omega
    clear HM
    go_wp2
    go_ret
    exact⟨rfl,zAH HBL.out _⟩
   ·have hpb:(p !=p)=false:=by simp
    by_cases hx0:x=0
    ·by_cases hy0:y=0
     ·obtain rfl:C=0:=hC.trans (HC0.out hx0 hy0)
      subst hx0
      subst hy0
      clear HM HC0 HC1 HC2 HIH hR hC
      go_wp2
      go_ret
      exact⟨rfl,zAH HBL.out _⟩
     ·obtain rfl:C= -1:=hC.trans (HC1.out hx0 hy0)
      have hyb:(y==0)=false:=by simpa using hy0
      subst hx0
      clear HM HC0 HC1 HC2 HIH hR hC
      go_wp2
      go_ret
      exact⟨rfl,zAH HBL.out _⟩
    ·exfalso;omega
  ·have eA:dF ad=1:=by unfold dF;rw[if_pos c1]
   have eB:dF bd=bd:=by unfold dF;rw[if_neg c2]
   rw[eA]at HD1 HLT HGT HEQ HRE kx0 kx1 fA hs
   rw[eB]at HD2 HLT HGT HEQ HRE ky0 ky1 fB hs
   obtain⟨p,hp⟩:=exq (an/1)
   obtain⟨q,hq⟩:=exq (bn/bd)
   obtain⟨x,hx⟩:=exq (an%1)
   obtain⟨y,hy⟩:=exq (bn%bd)
   rw[<- hp,<- hx]at HD1
   rw[<- hq,<- hy]at HD2
   rw[<- hp,<- hq]at HLT HGT HEQ HRE
   rw[<- hx,<- hy]at HEQ HRE
   rw[<- hx]at kx0 kx1
   rw[<- hy]at ky0 ky1
   have HIH:=hid (fun(X:World) (hx0:x≠0) (hy0:y≠0)=>ih X bd y 1 x (by unfold F64;omega) (by unfold F64;omega) (by unfold F64;omega) (by unfold F64;omega) (by unfold dF;rw[if_neg (by omega),if_neg (by omega)];omega))
   have hm:(p<q∧C= -1)∨(q<p∧C=1)∨(p=q∧C=cmpI (x*bd) (y*1)∧(x≠0->y≠0->C=cmpR bd y 1 x)):=by
    rcases Int.lt_trichotomy p q with h|h|h
    ·exact .inl ⟨h,HLT.out h⟩
    ·exact .inr (.inr ⟨h,HEQ.out h,HRE.out h⟩)
    ·exact .inr (.inl ⟨h,HGT.out h⟩)
   have hc0:x=0->y=0->cmpI (x*bd) (y*1)=0:=fun e1 e2=>by subst e1;subst e2;unfold cmpI;simp
   have hc1:x=0->y≠0->cmpI (x*bd) (y*1)= -1:=fun e1 e2=>by
    subst e1
    have:0<y*1:=Int.mul_pos (by omega) (by omega)
    unfold cmpI;rw[if_pos (by omega)]
   have hc2:x≠0->y=0->cmpI (x*bd) (y*1)=1:=fun e1 e2=>by
    subst e2
    have:0<x*bd:=Int.mul_pos (by omega) (by omega)
    unfold cmpI;rw[if_neg (by omega),if_neg (by omega)]
   have HM:=hid hm
   have HC0:=hid hc0
   have HC1:=hid hc1
   have HC2:=hid hc2
   clear eA eB hp hq hx hy hAd hBd hm hc0 hc1 hc2 HLT HGT HEQ HRE ih
   go_enter Tryz.func31,Tryz.ntmps31
   go_wp2_with (go_at_call 92;refine(HD1.out _).mono ?_;rintro e w1 ⟨rfl,k1,rfl⟩;refine Stop.of ?_)
   refine Stop.go ?_
   go_wp2_with (go_at_call 92;refine(HD2.out _).mono ?_;rintro e w2 ⟨rfl,k2,rfl⟩;refine Stop.of ?_)
   refine Stop.go ?_
   clear HD1 HD2
   rcases HM.out with⟨hl,rfl⟩|⟨hl,rfl⟩|⟨rfl,hC,hR⟩
   ·have hpb:(p !=q)=true:=by simp;omega
    clear HM
    go_wp2
    go_ret
    exact⟨rfl,zAH HBL.out _⟩
   ·have hpb:(p !=q)=true:=by simp;omega
    have hnl:¬p<q:=by omega
    clear HM
    go_wp2
    go_ret
    exact⟨rfl,zAH HBL.out _⟩
   ·have hpb:(p !=p)=false:=by simp
    by_cases hx0:x=0
    ·by_cases hy0:y=0
     ·obtain rfl:C=0:=hC.trans (HC0.out hx0 hy0)
      subst hx0
      subst hy0
      clear HM HC0 HC1 HC2 HIH hR hC
      go_wp2
      go_ret
      exact⟨rfl,zAH HBL.out _⟩
     ·obtain rfl:C= -1:=hC.trans (HC1.out hx0 hy0)
      have hyb:(y==0)=false:=by simpa using hy0
      subst hx0
      clear HM HC0 HC1 HC2 HIH hR hC
      go_wp2
      go_ret
      exact⟨rfl,zAH HBL.out _⟩
    ·exfalso;omega
  ·have eA:dF ad=ad:=by unfold dF;rw[if_neg c1]
   have eB:dF bd=1:=by unfold dF;rw[if_pos c2]
   rw[eA]at HD1 HLT HGT HEQ HRE kx0 kx1 fA hs
   rw[eB]at HD2 HLT HGT HEQ HRE ky0 ky1 fB hs
   obtain⟨p,hp⟩:=exq (an/ad)
   obtain⟨q,hq⟩:=exq (bn/1)
   obtain⟨x,hx⟩:=exq (an%ad)
   obtain⟨y,hy⟩:=exq (bn%1)
   rw[<- hp,<- hx]at HD1
   rw[<- hq,<- hy]at HD2
   rw[<- hp,<- hq]at HLT HGT HEQ HRE
   rw[<- hx,<- hy]at HEQ HRE
   rw[<- hx]at kx0 kx1
   rw[<- hy]at ky0 ky1
   have HIH:=hid (fun(X:World) (hx0:x≠0) (hy0:y≠0)=>ih X 1 y ad x (by unfold F64;omega) (by unfold F64;omega) (by unfold F64;omega) (by unfold F64;omega) (by unfold dF;rw[if_neg (by omega),if_neg (by omega)];omega))
   have hm:(p<q∧C= -1)∨(q<p∧C=1)∨(p=q∧C=cmpI (x*1) (y*ad)∧(x≠0->y≠0->C=cmpR 1 y ad x)):=by
    rcases Int.lt_trichotomy p q with h|h|h
    ·exact .inl ⟨h,HLT.out h⟩
    ·exact .inr (.inr ⟨h,HEQ.out h,HRE.out h⟩)
    ·exact .inr (.inl ⟨h,HGT.out h⟩)
   have hc0:x=0->y=0->cmpI (x*1) (y*ad)=0:=fun e1 e2=>by subst e1;subst e2;unfold cmpI;simp
   have hc1:x=0->y≠0->cmpI (x*1) (y*ad)= -1:=fun e1 e2=>by
    subst e1
    have:0<y*ad:=Int.mul_pos (by omega) (by omega)
    unfold cmpI;rw[if_pos (by omega)]
   have hc2:x≠0->y=0->cmpI (x*1) (y*ad)=1:=fun e1 e2=>by
    subst e2
    have:0<x*1:=Int.mul_pos (by omega) (by omega)
    unfold cmpI;rw[if_neg (by omega),if_neg (by omega)]
   have HM:=hid hm
   have HC0:=hid hc0
   have HC1:=hid hc1
   have HC2:=hid hc2
   clear eA eB hp hq hx hy hAd hBd hm hc0 hc1 hc2 HLT HGT HEQ HRE ih
   go_enter Tryz.func31,Tryz.ntmps31
   go_wp2_with (go_at_call 92;refine(HD1.out _).mono ?_;rintro e w1 ⟨rfl,k1,rfl⟩;refine Stop.of ?_)
   refine Stop.go ?_
   go_wp2_with (go_at_call 92;refine(HD2.out _).mono ?_;rintro e w2 ⟨rfl,k2,rfl⟩;refine Stop.of ?_)
   refine Stop.go ?_
   clear HD1 HD2
   rcases HM.out with⟨hl,rfl⟩|⟨hl,rfl⟩|⟨rfl,hC,hR⟩
   ·have hpb:(p !=q)=true:=by simp;omega
    clear HM
    go_wp2
    go_ret
    exact⟨rfl,zAH HBL.out _⟩
   ·have hpb:(p !=q)=true:=by simp;omega
    have hnl:¬p<q:=by omega
    clear HM
    go_wp2
    go_ret
    exact⟨rfl,zAH HBL.out _⟩
   ·have hpb:(p !=p)=false:=by simp
    by_cases hx0:x=0
    ·by_cases hy0:y=0
     ·obtain rfl:C=0:=hC.trans (HC0.out hx0 hy0)
      subst hx0
      subst hy0
      clear HM HC0 HC1 HC2 HIH hR hC
      go_wp2
      go_ret
      exact⟨rfl,zAH HBL.out _⟩
     ·obtain rfl:C= -1:=hC.trans (HC1.out hx0 hy0)
      have hyb:(y==0)=false:=by simpa using hy0
      subst hx0
      clear HM HC0 HC1 HC2 HIH hR hC
      go_wp2
      go_ret
      exact⟨rfl,zAH HBL.out _⟩
    ·have hxb:(x==0)=false:=by simpa using hx0
     by_cases hy0:y=0
     ·obtain rfl:C=1:=hC.trans (HC2.out hx0 hy0)
      subst hy0
      clear HM HC0 HC1 HC2 HIH hR hC
      go_wp2
      go_ret
      exact⟨rfl,zAH HBL.out _⟩
     ·exfalso;omega
  ·have eA:dF ad=ad:=by unfold dF;rw[if_neg c1]
   have eB:dF bd=bd:=by unfold dF;rw[if_neg c2]
   rw[eA]at HD1 HLT HGT HEQ HRE kx0 kx1 fA hs
   rw[eB]at HD2 HLT HGT HEQ HRE ky0 ky1 fB hs
   obtain⟨p,hp⟩:=exq (an/ad)
   obtain⟨q,hq⟩:=exq (bn/bd)
   obtain⟨x,hx⟩:=exq (an%ad)
   obtain⟨y,hy⟩:=exq (bn%bd)
   rw[<- hp,<- hx]at HD1
   rw[<- hq,<- hy]at HD2
   rw[<- hp,<- hq]at HLT HGT HEQ HRE
   rw[<- hx,<- hy]at HEQ HRE
   rw[<- hx]at kx0 kx1
   rw[<- hy]at ky0 ky1
   have HIH:=hid (fun(X:World) (hx0:x≠0) (hy0:y≠0)=>ih X bd y ad x (by unfold F64;omega) (by unfold F64;omega) (by unfold F64;omega) (by unfold F64;omega) (by unfold dF;rw[if_neg (by omega),if_neg (by omega)];omega))
   have hm:(p<q∧C= -1)∨(q<p∧C=1)∨(p=q∧C=cmpI (x*bd) (y*ad)∧(x≠0->y≠0->C=cmpR bd y ad x)):=by
    rcases Int.lt_trichotomy p q with h|h|h
    ·exact .inl ⟨h,HLT.out h⟩
    ·exact .inr (.inr ⟨h,HEQ.out h,HRE.out h⟩)
    ·exact .inr (.inl ⟨h,HGT.out h⟩)
   have hc0:x=0->y=0->cmpI (x*bd) (y*ad)=0:=fun e1 e2=>by subst e1;subst e2;unfold cmpI;simp
   have hc1:x=0->y≠0->cmpI (x*bd) (y*ad)= -1:=fun e1 e2=>by
    subst e1
    have:0<y*ad:=Int.mul_pos (by omega) (by omega)
    unfold cmpI;rw[if_pos (by omega)]
   have hc2:x≠0->y=0->cmpI (x*bd) (y*ad)=1:=fun e1 e2=>by
    subst e2
    have:0<x*bd:=Int.mul_pos (by omega) (by omega)
    unfold cmpI;rw[if_neg (by omega),if_neg (by omega)]
   have HM:=hid hm
   have HC0:=hid hc0
   have HC1:=hid hc1
   have HC2:=hid hc2
   clear eA eB hp hq hx hy hAd hBd hm hc0 hc1 hc2 HLT HGT HEQ HRE ih
   go_enter Tryz.func31,Tryz.ntmps31
   go_wp2_with (go_at_call 92;refine(HD1.out _).mono ?_;rintro e w1 ⟨rfl,k1,rfl⟩;refine Stop.of ?_)
   refine Stop.go ?_
   go_wp2_with (go_at_call 92;refine(HD2.out _).mono ?_;rintro e w2 ⟨rfl,k2,rfl⟩;refine Stop.of ?_)
   refine Stop.go ?_
   clear HD1 HD2
   rcases HM.out with⟨hl,rfl⟩|⟨hl,rfl⟩|⟨rfl,hC,hR⟩
   ·have hpb:(p !=q)=true:=by simp;omega
    clear HM
    go_wp2
    go_ret
    exact⟨rfl,zAH HBL.out _⟩
   ·have hpb:(p !=q)=true:=by simp;omega
    have hnl:¬p<q:=by omega
    clear HM
    go_wp2
    go_ret
    exact⟨rfl,zAH HBL.out _⟩
   ·have hpb:(p !=p)=false:=by simp
    by_cases hx0:x=0
    ·by_cases hy0:y=0
     ·obtain rfl:C=0:=hC.trans (HC0.out hx0 hy0)
      subst hx0
      subst hy0
      clear HM HC0 HC1 HC2 HIH hR hC
      go_wp2
      go_ret
      exact⟨rfl,zAH HBL.out _⟩
     ·obtain rfl:C= -1:=hC.trans (HC1.out hx0 hy0)
      have hyb:(y==0)=false:=by simpa using hy0
      subst hx0
      clear HM HC0 HC1 HC2 HIH hR hC
      go_wp2
      go_ret
      exact⟨rfl,zAH HBL.out _⟩
    ·have hxb:(x==0)=false:=by simpa using hx0
     by_cases hy0:y=0
     ·obtain rfl:C=1:=hC.trans (HC2.out hx0 hy0)
      subst hy0
      clear HM HC0 HC1 HC2 HIH hR hC
      go_wp2
      go_ret
      exact⟨rfl,zAH HBL.out _⟩
     ·have hyb:(y==0)=false:=by simpa using hy0
      have HI2:=hid (fun X=>HIH.out X hx0 hy0)
      rw[<- hR hx0 hy0]at HI2
      clear HM HC0 HC1 HC2 HIH hR hC
      go_wp2_with (go_at_call 31;refine(HI2.out _).mono ?_;rintro e w3 ⟨rfl,hb3⟩)
      go_ret
      exact⟨rfl,zAA (zAH HBL.out _) hb3⟩
end
section
open Go.RowKit
theorem exact_c(w:World)(N D:Int)(hN: -4611686018427387904<=N∧N<=4611686018427387904)(hD:0<=D∧D<=4611686018427387904):
 Calls Tryz.prog 22 #[.agg #[.int .i64 N,.int .i64 D]] w fun e w'=>∃x,e=.returned x∧RatQ w' x 3 (decide (N<0)) (N.natAbs:Nat) D∧Below w.heap.size w w':=by
 obtain⟨s0,hs⟩:=exq (w.heap.size)
 obtain⟨wa,hwa⟩:=exq ((w.alloc (.cells #[.int .i64 N,.int .i64 D] 29)).alloc (.cells #[.bool false,.slice none 0 0,.slice none 0 0] 37))
 have hba:Below w.heap.size w wa:=by rw[hwa];exact((Below.refl _ _).alloc (Nat.le_refl _) _).alloc (by simp) _
 have q0:wa.heap[s0+1]? =some (.cells #[.bool false,.slice none 0 0,.slice none 0 0] 37 (0,0)):=by
  have:=World.alloc_heap_new (w.alloc (.cells #[.int .i64 N,.int .i64 D] 29)) (.cells #[.bool false,.slice none 0 0,.slice none 0 0] 37)
  rw[hwa,hs]
  simpa using this
 have hs1:s0+1<wa.heap.size:=(Array.getElem?_eq_some_iff.1 q0).1
 have hc:∀o v,(#[Value.int .i64 N,.int .i64 D]:Array Value)[o]? =some v->wa.cell? ⟨s0,o,none⟩=some v:=fun o v h=>by
  rw[hwa,hs,World.cell?_alloc_past _ _ _ (by simp),World.cell?_alloc_at _ _ _ _ rfl];exact h
 have HS:=hid (fun(Y:World) (hY:Below wa.heap.size wa Y)=>show Y.cell? ⟨s0,0,none⟩=some (.int .i64 N)∧Y.cell? ⟨s0,1,none⟩=some (.int .i64 D)from by
  have k0:∀o,Y.cell? ⟨s0,o,none⟩=wa.cell? ⟨s0,o,none⟩:=fun o=>hY.cell (p:=⟨s0,o,none⟩) (by show s0<_;omega)
  exact⟨(k0 0).trans (hc 0 _ rfl),(k0 1).trans (hc 1 _ rfl)⟩)
 have HR:=hid (fun(Y:World) (hY:Below wa.heap.size wa Y)=>show Y.cell? ⟨s0+1,0,none⟩=some (.bool false)∧Y.cell? ⟨s0+1,1,none⟩=some (.slice none 0 0)∧Y.cell? ⟨s0+1,2,none⟩=some (.slice none 0 0)∧(∀o,Y.frozen? ⟨s0+1,o,none⟩=false)∧s0+1<Y.heap.size from by
  have h1:=(hY.block (s0+1) hs1).trans q0
  exact⟨by simp[World.cell?,h1],by simp[World.cell?,h1],by simp[World.cell?,h1],fun o=>by simp[World.frozen?,h1],(Array.getElem?_eq_some_iff.1 h1).1⟩)
 have HFIN:=hid (fun(Y:World) (hY:Below wa.heap.size wa Y) (x y z:Value)=>show Below w.heap.size w (((Y.setCell ⟨s0+1,0,none⟩ x).setCell ⟨s0+1,1,none⟩ y).setCell ⟨s0+1,2,none⟩ z)from
  zAC (zAC (zAC (zAA hba hY) (by omega) 0 x) (by omega) 1 y) (by omega) 2 z)
 have HNG:=hid (fun(Y:World) (hY:Below wa.heap.size wa Y)=>show ∃c,Y.heap[s0+1]? =some (.cells c 37 (0,0))∧∀x:Int,∀o:Nat,c[o]? ≠some (.int .i64 x)from
  ⟨_,(hY.block (s0+1) hs1).trans q0,fun x o=>by match o with|0=>simp|1=>simp|2=>simp|o+3=>simp⟩)
 obtain⟨b,hb⟩:=exq (decide (N<0))
 obtain⟨m,hm⟩:∃m:Int,m=(N.natAbs:Nat):=⟨_,rfl⟩
 rw[<- hb,<- hm]
 have hb2:=hb.symm
 have HM1:=hid (fun X=>natOf_c X m (by omega) (by omega))
 have HM2:=hid (fun X=>natOf_c X D hD.1 (by omega))
 have hng:IntKind.i64.wrap (-N)= -N:=IntWalk.i64_in _ (by omega)
 have hmx:(if-N<=N then N else-N)=m:=by split<;>omega
 have hmx2:(if N<= -N then-N else N)=m:=by split<;>omega
 have hmx3:(if N< -N then-N else N)=m:=by split<;>omega
 clear hba q0 hs1 hc hb hm
 go_enter Tryz.func22,Tryz.ntmps22
 go_wp2_with fail
 rw[<- hs,<- hwa]
 clear hs hwa
 refine zAF (fun j' X=>decide (j'<=13)=true->X.cell? ⟨s0,0,none⟩=some (.int .i64 N)∧X.cell? ⟨s0,1,none⟩=some (.int .i64 D)) (by kernel_rfl) ?_
 have hbd:Below wa.heap.size wa wa.drew:=(Below.refl _ _).drew
 generalize wa.drew=wd at hbd⊢
 refine AnyT.tD (i:=0) (v:=.pointer (some ⟨s0,0,none⟩)) rfl rfl (by rintro w' ⟨y1,y2⟩;go_simp) (HS.out _ hbd) ?_;go_frame
 refine AnyT.tD (i:=1) (v:=.int .i64 N) rfl rfl (by rintro w' ⟨y1,y2⟩;go_simp) (HS.out _ hbd) ?_;go_frame
 refine AnyT.tD (i:=2) (v:=.bool b) rfl rfl (by rintro w' ⟨y1,y2⟩;go_simp) (HS.out _ hbd) ?_;go_frame
 refine AnyT.tD (i:=3) (v:=.pointer (some ⟨s0,0,none⟩)) rfl rfl (by rintro w' ⟨y1,y2⟩;go_simp) (HS.out _ hbd) ?_;go_frame
 refine AnyT.tD (i:=4) (v:=.int .i64 N) rfl rfl (by rintro w' ⟨y1,y2⟩;go_simp) (HS.out _ hbd) ?_;go_frame
 refine AnyT.tD (i:=5) (v:=.pointer (some ⟨s0,0,none⟩)) rfl rfl (by rintro w' ⟨y1,y2⟩;go_simp) (HS.out _ hbd) ?_;go_frame
 refine AnyT.tD (i:=6) (v:=.int .i64 N) rfl rfl (by rintro w' ⟨y1,y2⟩;go_simp) (HS.out _ hbd) ?_;go_frame
 refine AnyT.tD (i:=7) (v:=.int .i64 (-N)) rfl rfl (by rintro w' ⟨y1,y2⟩;go_simp) (HS.out _ hbd) ?_;go_frame
 refine AnyT.tD (i:=10) (v:=.pointer (some ⟨s0,1,none⟩)) rfl rfl (by rintro w' ⟨y1,y2⟩;go_simp) (HS.out _ hbd) ?_;go_frame
 refine AnyT.tD (i:=11) (v:=.int .i64 D) rfl rfl (by rintro w' ⟨y1,y2⟩;go_simp) (HS.out _ hbd) ?_;go_frame
 refine AnyT.nx (i:=8) rfl ?_
 go_wp2
 refine⟨fun _=>HS.out _ hbd,?_⟩
 refine AnyT.nx (i:=9) rfl ?_
 go_wp2_with (go_at_call 74;refine(HM1.out _).mono ?_;rintro e w1 ⟨v1,rfl,hv1,hb1⟩;refine Stop.of ?_)
 refine Stop.go ?_
 obtain⟨a1,n1,c1,rfl⟩:=hv1.slice
 have HV1:=hid hv1
 have HB1:=hid (zAA hbd hb1)
 clear hv1 hb1 hmx hmx2 hmx3 hng
 go_wp2
 refine⟨fun _=>HS.out _ HB1.out,?_⟩
 refine AnyT.nx (i:=12) rfl ?_
 go_wp2_with (go_at_call 74;refine(HM2.out _).mono ?_;rintro e w2 ⟨v2,rfl,hv2,hb2'⟩;refine Stop.of ?_)
 refine Stop.go ?_
 obtain⟨a2,n2,c2,rfl⟩:=hv2.slice
 have HB2:=hid (zAA HB1.out hb2')
 have hv1':=HV1.out.below hb2'
 have HK1:=hid (hv1'.keeps3 (g:=s0+1) (u:=.bool b) (v:=.slice a1 n1 c1) (z:=.slice a2 n2 c2) (HNG.out _ HB2.out))
 have HK2:=hid (hv2.keeps3 (g:=s0+1) (u:=.bool b) (v:=.slice a1 n1 c1) (z:=.slice a2 n2 c2) (HNG.out _ HB2.out))
 obtain⟨x0,x1,x2,hfz,hlt⟩:=HR.out _ HB2.out
 have f0:=hfz 0
 have f1:=hfz 1
 have f2:=hfz 2
 have HFI:=hid (HFIN.out _ HB2.out (.bool b) (.slice a1 n1 c1) (.slice a2 n2 c2))
 clear hv1' hv2 hb2' hfz HV1
 go_wp2
 refine⟨fun _=>HS.out _ HB2.out,?_⟩
 refine AnyT.tD (i:=13) (v:=.agg #[.bool b,.slice a1 n1 c1,.slice a2 n2 c2]) rfl rfl (by rintro w' ⟨y1,y2⟩;go_simp) (HS.out _ HB2.out) ?_;go_frame
 refine AnyT.nx (i:=14) rfl ?_
 go_wp2
 refine⟨fun h=>absurd h (by decide),?_⟩
 refine AnyT.done (by kernel_rfl) ?_ _
 go_wp2
 refine bodyPost_ret (v:=.agg #[.bool b,.slice a1 n1 c1,.slice a2 n2 c2]) ?_ rfl ⟨_,rfl,⟨_,_,_,_,_,_,rfl,HK1.out,HK2.out⟩,HFI.out⟩
 simp[results,Tryz.results22,go_sem,x0,x1,x2,f0,f1,f2,hlt]
theorem nwhole_c(w:World)(n:Int)(hN: -4611686018427387904<=n∧n<=4611686018427387904):
 Calls Tryz.prog 91 #[.int .i64 n] w fun e w'=>∃x,e=.returned x∧RatQ w' x 3 (decide (n<0)) (n.natAbs:Nat) 1∧Below w.heap.size w w':=by
 obtain⟨s0,hs⟩:=exq (w.heap.size)
 obtain⟨wa,hwa⟩:=exq (w.alloc (.cells #[.bool false,.slice none 0 0,.slice none 0 0] 37))
 have hba:Below w.heap.size w wa:=by rw[hwa];exact(Below.refl _ _).alloc (Nat.le_refl _) _
 have q0:wa.heap[s0]? =some (.cells #[.bool false,.slice none 0 0,.slice none 0 0] 37 (0,0)):=by
  rw[hwa,hs];exact World.alloc_heap_new w _
 have hs1:s0<wa.heap.size:=(Array.getElem?_eq_some_iff.1 q0).1
 have HR:=hid (fun(Y:World) (hY:Below wa.heap.size wa Y)=>show Y.cell? ⟨s0,0,none⟩=some (.bool false)∧Y.cell? ⟨s0,1,none⟩=some (.slice none 0 0)∧Y.cell? ⟨s0,2,none⟩=some (.slice none 0 0)∧(∀o,Y.frozen? ⟨s0,o,none⟩=false)∧s0<Y.heap.size from by
  have h1:=(hY.block s0 hs1).trans q0
  exact⟨by simp[World.cell?,h1],by simp[World.cell?,h1],by simp[World.cell?,h1],fun o=>by simp[World.frozen?,h1],(Array.getElem?_eq_some_iff.1 h1).1⟩)
 have HFIN:=hid (fun(Y:World) (hY:Below wa.heap.size wa Y) (x y z:Value)=>show Below w.heap.size w (((Y.setCell ⟨s0,0,none⟩ x).setCell ⟨s0,1,none⟩ y).setCell ⟨s0,2,none⟩ z)from
  zAC (zAC (zAC (zAA hba hY) (by omega) 0 x) (by omega) 1 y) (by omega) 2 z)
 have HNG:=hid (fun(Y:World) (hY:Below wa.heap.size wa Y)=>show ∃c,Y.heap[s0]? =some (.cells c 37 (0,0))∧∀x:Int,∀o:Nat,c[o]? ≠some (.int .i64 x)from
  ⟨_,(hY.block s0 hs1).trans q0,fun x o=>by match o with|0=>simp|1=>simp|2=>simp|o+3=>simp⟩)
 have HE:=hid (exact_c wa n 1 hN (by decide))
 obtain⟨b,hb⟩:=exq (decide (n<0))
 obtain⟨m,hm⟩:∃m:Int,m=(n.natAbs:Nat):=⟨_,rfl⟩
 rw[<- hb,<- hm]at HE⊢
 clear hba q0 hs1 hb hm
 go_enter Tryz.func91,Tryz.ntmps91
 go_wp2_with fail
 rw[<- hs,<- hwa]
 clear hs hwa
 go_wp2_with (go_at_call 22;refine HE.out.mono ?_;rintro e w2 ⟨v2,rfl,⟨a1,n1,c1,a2,n2,c2,rfl,hv1,hv2⟩,hb2⟩;refine Stop.of ?_)
 refine Stop.go ?_
 have HK1:=hid (hv1.keeps3 (g:=s0) (u:=.bool b) (v:=.slice a1 n1 c1) (z:=.slice a2 n2 c2) (HNG.out _ hb2))
 have HK2:=hid (hv2.keeps3 (g:=s0) (u:=.bool b) (v:=.slice a1 n1 c1) (z:=.slice a2 n2 c2) (HNG.out _ hb2))
 obtain⟨x0,x1,x2,hfz,hlt⟩:=HR.out _ hb2
 have f0:=hfz 0
 have f1:=hfz 1
 have f2:=hfz 2
 have HFI:=hid (HFIN.out _ hb2 (.bool b) (.slice a1 n1 c1) (.slice a2 n2 c2))
 clear hv1 hv2 hb2 hfz
 go_wp2
 refine bodyPost_ret (v:=.agg #[.bool b,.slice a1 n1 c1,.slice a2 n2 c2]) ?_ rfl ⟨_,rfl,⟨_,_,_,_,_,_,rfl,HK1.out,HK2.out⟩,HFI.out⟩
 simp[results,Tryz.results91,go_sem,x0,x1,x2,f0,f1,f2,hlt]
end
section
open Go.RowKit
theorem rtimes_c(w:World)(k:Int)(v:Value)(L:Nat)(s:Bool)(N D:Int)(hk: -4611686018427387904<=k∧k<=4611686018427387904)(h:RatQ w v L s N D)(hL:L<=100):
 Calls Tryz.prog 23 #[.int .i64 k,v] w fun e w'=>∃x,e=.returned x∧RatQ w' x (3+L) (s !=decide (k<0)) ((k.natAbs:Nat)*N) D∧Below w.heap.size w w':=by
 obtain⟨na,nn,nc,da,dn,dc,rfl,hN,hD⟩:=h
 obtain⟨s0,hs⟩:=exq (w.heap.size)
 obtain⟨wa,hwa⟩:=exq ((w.alloc (.cells #[.bool s,.slice na nn nc,.slice da dn dc] 37)).alloc (.cells #[.bool false,.slice none 0 0,.slice none 0 0] 37))
 have hba:Below w.heap.size w wa:=by rw[hwa];exact((Below.refl _ _).alloc (Nat.le_refl _) _).alloc (by simp) _
 have q0:wa.heap[s0+1]? =some (.cells #[.bool false,.slice none 0 0,.slice none 0 0] 37 (0,0)):=by
  have:=World.alloc_heap_new (w.alloc (.cells #[.bool s,.slice na nn nc,.slice da dn dc] 37)) (.cells #[.bool false,.slice none 0 0,.slice none 0 0] 37)
  rw[hwa,hs]
  simpa using this
 have hs1:s0+1<wa.heap.size:=(Array.getElem?_eq_some_iff.1 q0).1
 have hc:∀o v,(#[Value.bool s,.slice na nn nc,.slice da dn dc]:Array Value)[o]? =some v->wa.cell? ⟨s0,o,none⟩=some v:=fun o v h=>by
  rw[hwa,hs,World.cell?_alloc_past _ _ _ (by simp),World.cell?_alloc_at _ _ _ _ rfl];exact h
 have HS:=hid (fun(Y:World) (hY:Below wa.heap.size wa Y)=>show Y.cell? ⟨s0,0,none⟩=some (.bool s)∧Y.cell? ⟨s0,1,none⟩=some (.slice na nn nc)∧Y.cell? ⟨s0,2,none⟩=some (.slice da dn dc)from by
  have k0:∀o,Y.cell? ⟨s0,o,none⟩=wa.cell? ⟨s0,o,none⟩:=fun o=>hY.cell (p:=⟨s0,o,none⟩) (by show s0<_;omega)
  exact⟨(k0 0).trans (hc 0 _ rfl),(k0 1).trans (hc 1 _ rfl),(k0 2).trans (hc 2 _ rfl)⟩)
 have HR:=hid (fun(Y:World) (hY:Below wa.heap.size wa Y)=>show Y.cell? ⟨s0+1,0,none⟩=some (.bool false)∧Y.cell? ⟨s0+1,1,none⟩=some (.slice none 0 0)∧Y.cell? ⟨s0+1,2,none⟩=some (.slice none 0 0)∧(∀o,Y.frozen? ⟨s0+1,o,none⟩=false)∧s0+1<Y.heap.size from by
  have h1:=(hY.block (s0+1) hs1).trans q0
  exact⟨by simp[World.cell?,h1],by simp[World.cell?,h1],by simp[World.cell?,h1],fun o=>by simp[World.frozen?,h1],(Array.getElem?_eq_some_iff.1 h1).1⟩)
 have HFIN:=hid (fun(Y:World) (hY:Below wa.heap.size wa Y) (x y z:Value)=>show Below w.heap.size w (((Y.setCell ⟨s0+1,0,none⟩ x).setCell ⟨s0+1,1,none⟩ y).setCell ⟨s0+1,2,none⟩ z)from
  zAC (zAC (zAC (zAA hba hY) (by omega) 0 x) (by omega) 1 y) (by omega) 2 z)
 have HNG:=hid (fun(Y:World) (hY:Below wa.heap.size wa Y)=>show ∃c,Y.heap[s0+1]? =some (.cells c 37 (0,0))∧∀x:Int,∀o:Nat,c[o]? ≠some (.int .i64 x)from
  ⟨_,(hY.block (s0+1) hs1).trans q0,fun x o=>by match o with|0=>simp|1=>simp|2=>simp|o+3=>simp⟩)
 have HNN:=hid (fun(Y:World) (hY:Below wa.heap.size wa Y)=>And.intro (hN.below (zAA hba hY)) (hD.below (zAA hba hY)))
 obtain⟨b,hb⟩:=exq (decide (k<0))
 obtain⟨m,hm⟩:∃m:Int,m=(k.natAbs:Nat):=⟨_,rfl⟩
 rw[<- hb,<- hm]
 have hb2:=hb.symm
 have HM1:=hid (fun X=>natOf_c X m (by omega) (by omega))
 have hng:IntKind.i64.wrap (-k)= -k:=IntWalk.i64_in _ (by omega)
 have hmx:(if-k<=k then k else-k)=m:=by split<;>omega
 have hmx2:(if k<= -k then-k else k)=m:=by split<;>omega
 have hmx3:(if k< -k then-k else k)=m:=by split<;>omega
 clear hba q0 hs1 hc hb hm hN hD
 go_enter Tryz.func23,Tryz.ntmps23
 go_wp2_with fail
 rw[<- hs,<- hwa]
 clear hs hwa
 refine zAF (fun j' X=>decide (j'<=15)=true->X.cell? ⟨s0,0,none⟩=some (.bool s)∧X.cell? ⟨s0,1,none⟩=some (.slice na nn nc)∧X.cell? ⟨s0,2,none⟩=some (.slice da dn dc)) (by kernel_rfl) ?_
 have hbd:Below wa.heap.size wa wa.drew:=(Below.refl _ _).drew
 generalize wa.drew=wd at hbd⊢
 refine AnyT.tD (i:=0) (v:=.pointer (some ⟨s0,0,none⟩)) rfl rfl (by rintro w' ⟨y1,y2,y3⟩;go_simp) (HS.out _ hbd) ?_;go_frame
 refine AnyT.tD (i:=1) (v:=.bool s) rfl rfl (by rintro w' ⟨y1,y2,y3⟩;go_simp) (HS.out _ hbd) ?_;go_frame
 refine AnyT.tD (i:=2) (v:=.int .i64 k) rfl rfl (by rintro w' ⟨y1,y2,y3⟩;go_simp) (HS.out _ hbd) ?_;go_frame
 refine AnyT.tD (i:=3) (v:=.bool b) rfl rfl (by rintro w' ⟨y1,y2,y3⟩;go_simp) (HS.out _ hbd) ?_;go_frame
 refine AnyT.tD (i:=4) (v:=.bool (!(s==b))) rfl rfl (by rintro w' ⟨y1,y2,y3⟩;go_simp) (HS.out _ hbd) ?_;go_frame
 refine AnyT.tD (i:=5) (v:=.int .i64 k) rfl rfl (by rintro w' ⟨y1,y2,y3⟩;go_simp) (HS.out _ hbd) ?_;go_frame
 refine AnyT.tD (i:=6) (v:=.int .i64 k) rfl rfl (by rintro w' ⟨y1,y2,y3⟩;go_simp) (HS.out _ hbd) ?_;go_frame
 refine AnyT.tD (i:=7) (v:=.int .i64 (-k)) rfl rfl (by rintro w' ⟨y1,y2,y3⟩;go_simp) (HS.out _ hbd) ?_;go_frame
 refine AnyT.tD (i:=10) (v:=.pointer (some ⟨s0,1,none⟩)) rfl rfl (by rintro w' ⟨y1,y2,y3⟩;go_simp) (HS.out _ hbd) ?_;go_frame
 refine AnyT.tD (i:=11) (v:=.slice na nn nc) rfl rfl (by rintro w' ⟨y1,y2,y3⟩;go_simp) (HS.out _ hbd) ?_;go_frame
 refine AnyT.tD (i:=13) (v:=.pointer (some ⟨s0,2,none⟩)) rfl rfl (by rintro w' ⟨y1,y2,y3⟩;go_simp) (HS.out _ hbd) ?_;go_frame
 refine AnyT.tD (i:=14) (v:=.slice da dn dc) rfl rfl (by rintro w' ⟨y1,y2,y3⟩;go_simp) (HS.out _ hbd) ?_;go_frame
 refine AnyT.nx (i:=8) rfl ?_
 go_wp2
 refine⟨fun _=>HS.out _ hbd,?_⟩
 refine AnyT.nx (i:=9) rfl ?_
 go_wp2_with (go_at_call 74;refine(HM1.out _).mono ?_;rintro e w1 ⟨v1,rfl,hv1,hb1⟩;refine Stop.of ?_)
 refine Stop.go ?_
 obtain⟨a1,n1,c1,rfl⟩:=hv1.slice
 have HV1:=hid hv1
 have HB1:=hid (zAA hbd hb1)
 clear hv1 hb1 hmx hmx2 hmx3 hng
 go_wp2
 refine⟨fun _=>HS.out _ HB1.out,?_⟩
 refine AnyT.nx (i:=12) rfl ?_
 go_wp2_with (go_at_call 75;refine(zLC _ _ _ 3 L _ _ HV1.out (HNN.out _ HB1.out).1 (by omega) (by omega)).mono ?_;rintro e w2 ⟨v2,rfl,hv2,hb2'⟩;refine Stop.of ?_)
 refine Stop.go ?_
 obtain⟨a2,n2,c2,rfl⟩:=hv2.slice
 have HB2:=hid (zAA HB1.out hb2')
 have hd2:=(HNN.out _ HB2.out).2
 have HK1:=hid (hv2.keeps3 (g:=s0+1) (u:=.bool (!(s==b))) (v:=.slice a2 n2 c2) (z:=.slice da dn dc) (HNG.out _ HB2.out))
 have HK2:=hid ((hd2.keeps3 (g:=s0+1) (u:=.bool (!(s==b))) (v:=.slice a2 n2 c2) (z:=.slice da dn dc) (HNG.out _ HB2.out)).le (show L<=3+L by omega))
 obtain⟨x0,x1,x2,hfz,hlt⟩:=HR.out _ HB2.out
 have f0:=hfz 0
 have f1:=hfz 1
 have f2:=hfz 2
 have HFI:=hid (HFIN.out _ HB2.out (.bool (!(s==b))) (.slice a2 n2 c2) (.slice da dn dc))
 clear hv2 hd2 hb2' hfz HV1
 go_wp2
 refine⟨fun _=>HS.out _ HB2.out,?_⟩
 refine AnyT.tD (i:=15) (v:=.agg #[.bool (!(s==b)),.slice a2 n2 c2,.slice da dn dc]) rfl rfl (by rintro w' ⟨y1,y2,y3⟩;go_simp) (HS.out _ HB2.out) ?_;go_frame
 refine AnyT.nx (i:=16) rfl ?_
 go_wp2
 refine⟨fun h=>absurd h (by decide),?_⟩
 refine AnyT.done (by kernel_rfl) ?_ _
 go_wp2
 refine bodyPost_ret (v:=.agg #[.bool (!(s==b)),.slice a2 n2 c2,.slice da dn dc]) ?_ rfl ⟨_,rfl,⟨_,_,_,_,_,_,rfl,HK1.out,HK2.out⟩,HFI.out⟩
 simp[results,Tryz.results23,go_sem,x0,x1,x2,f0,f1,f2,hlt]
end
end Go.Proofs.YtlffndehhhpgjaaGreat
