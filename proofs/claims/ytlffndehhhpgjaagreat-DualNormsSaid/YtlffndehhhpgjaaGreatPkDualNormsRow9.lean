/- Walks and plain laws for DualNormsRow, part 9. -/
import Derived.Test.YtlffndehhhpgjaaGreatPkDualNormsRow8
namespace Go.Proofs.YtlffndehhhpgjaaGreat
set_option linter.unusedVariables false
set_option linter.unusedSimpArgs false
set_option maxRecDepth 100000
set_option maxHeartbeats 4000000
section
def pw:Nat->Int
 |0=>1
 |k+1=>1000000000*pw k
theorem zHE:∀k,0<pw k
 |0=>by decide
 |k+1=>by have:=zHE k;rw[pw];omega
theorem pw_add(a:Nat):∀b,pw (a+b)=pw a*pw b
 |0=>by rw[Nat.add_zero,pw];simp
 |b+1=>by rw[<- Nat.add_assoc,pw,pw,pw_add a b];grind
theorem pw_mono{a b:Nat}(h:a<=b):pw a<=pw b:=by
 obtain⟨c,rfl⟩:=Nat.exists_eq_add_of_le h
 rw[pw_add]
 have h1:=zHE a
 have h2:=zHE c
 have:pw a*1<=pw a*pw c:=Int.mul_le_mul_of_nonneg_left (by omega) (by omega)
 omega
def valN:List Int->Int
 | []=>0
 |d::l=>d+1000000000*valN l
theorem zKB(l m:List Int):valN (l++m)=valN l+pw l.length*valN m:=by
 induction l with
 |nil=>simp[valN,pw]
 |cons d l ih=>rw[List.cons_append,valN,valN,ih,List.length_cons,pw];grind
theorem zDL(l:List Int)(d:Int):valN (l++[d])=valN l+pw l.length*d:=by
 rw[zKB,valN,valN];simp
def DigL(l:List Int):Prop:=∀d∈l,0<=d∧d<1000000000
theorem DigL.nil:DigL []:=fun d h=>by cases h
theorem DigL.snoc{l:List Int}{d:Int}(h:DigL l)(h0:0<=d)(h1:d<1000000000):DigL (l++[d]):=fun x hx=>by
 rcases List.mem_append.1 hx with hx|hx
 ·exact h x hx
 ·simp at hx;subst hx;exact⟨h0,h1⟩
theorem DigL.take{l:List Int}(h:DigL l)(k:Nat):DigL (l.take k):=fun x hx=>h x (List.mem_of_mem_take hx)
theorem DigL.bnd:∀{l:List Int},DigL l->0<=valN l∧valN l<pw l.length
 | [],_=>by simp[valN,pw]
 |d::l,h=>by
  have h1:=h d (by simp)
  have h2:=DigL.bnd (l:=l) fun x hx=>h x (by simp[hx])
  rw[valN,List.length_cons,pw]
  omega
def zDF(l:List Int):Prop:=l.getLast? ≠some 0
theorem zDF.nil:zDF []:=by simp[zDF]
theorem zDF.low{l:List Int}(hd:DigL l)(ht:zDF l)(h0:0<l.length):pw (l.length-1)<=valN l:=by
 obtain⟨m,d,rfl⟩:∃m d,l=m++[d]:=⟨l.dropLast,l.getLast (by intro e;subst e;simp at h0),(List.dropLast_concat_getLast _).symm⟩
 have hd0:d≠0:=fun e=>ht (by rw[e];simp)
 have h1:=hd d (by simp)
 have h2:=DigL.bnd (l:=m) fun x hx=>hd x (by simp[hx])
 rw[zDL,List.length_append]
 simp only[List.length_cons,List.length_nil,Nat.zero_add,Nat.add_sub_cancel]
 have h3:=zHE m.length
 have:pw m.length*1<=pw m.length*d:=Int.mul_le_mul_of_nonneg_left (by omega) (by omega)
 omega
theorem zDF.of_low{l:List Int}(hd:DigL l)(h:0<l.length->pw (l.length-1)<=valN l):zDF l:=by
 intro he
 obtain⟨m,rfl⟩:=List.getLast?_eq_some_iff.1 he
 have h1:=h (by simp)
 rw[zDL,List.length_append]at h1
 have h2:=DigL.bnd (l:=m) fun x hx=>hd x (by simp[hx])
 simp only[List.length_cons,List.length_nil,Nat.zero_add,Nat.add_sub_cancel]at h1
 omega
theorem trim_zero{l:List Int}(hd:DigL l)(ht:zDF l):valN l=0↔l.length=0:=by
 constructor
 ·intro h
  rcases Nat.eq_zero_or_pos l.length with h0|h0
  ·exact h0
  ·have:=ht.low hd h0
   have:=zHE (l.length-1)
   omega
 ·intro h
  have:=List.eq_nil_of_length_eq_zero h
  subst this;rfl
theorem trim_lt{l m:List Int}(hl:DigL l)(hm:DigL m)(ht:zDF m)(h:l.length<m.length):valN l<valN m:=by
 have h1:=hl.bnd
 have h2:=ht.low hm (by omega)
 have h3:=pw_mono (show l.length<=m.length-1 by omega)
 omega
theorem trim_le{l m:List Int}(hl:DigL l)(hm:DigL m)(ht:zDF l)(h:valN l<=valN m):l.length<=m.length:=by
 rcases Nat.lt_or_ge m.length l.length with c|c
 ·have:=trim_lt hm hl ht c;omega
 ·exact c
def digF(l:List Int)(i:Nat):Int:=l[i]?.getD 0
theorem zCH{l:List Int}(h:DigL l)(i:Nat):0<=digF l i∧digF l i<1000000000:=by
 unfold digF
 cases e:l[i]? with
 |none=>decide
 |some d=>exact h d (List.mem_of_getElem? e)
theorem zCF(l:List Int)(k:Nat):valN (l.take (k+1))=valN (l.take k)+pw k*digF l k:=by
 rcases Nat.lt_or_ge k l.length with h|h
 ·rw[List.take_succ_eq_append_getElem h,zDL,List.length_take,Nat.min_eq_left (by omega)]
  unfold digF;rw[List.getElem?_eq_getElem h];rfl
 ·rw[List.take_of_length_le (by omega),List.take_of_length_le h]
  unfold digF;rw[List.getElem?_eq_none h];simp
theorem zCQ{l:List Int}{k:Nat}(h:l.length<=k):valN (l.take k)=valN l:=by rw[List.take_of_length_le h]
theorem zHT(l:List Int)(k:Nat):valN l=valN (l.take k)+pw k*valN (l.drop k):=by
 rcases Nat.lt_or_ge k l.length with h|h
 ·conv=>lhs;rw[<- List.take_append_drop k l]
  rw[zKB,List.length_take,Nat.min_eq_left (by omega)]
 ·rw[List.take_of_length_le h,List.drop_of_length_le h];simp[valN]
theorem set_val{l:List Int}{k:Nat}(h:k<l.length)(d:Int):valN (l.set k d)=valN l+pw k*(d-digF l k):=by
 have e:l.set k d=l.take k++d::l.drop (k+1):=by
  rw[List.set_eq_take_append_cons_drop,if_pos h]
 have e2:valN l=valN (l.take k)+pw k*(digF l k+1000000000*valN (l.drop (k+1))):=by
  rw[zHT l k,List.drop_eq_getElem_cons h,valN]
  unfold digF;rw[List.getElem?_eq_getElem h];rfl
 rw[e,zKB,valN,List.length_take,Nat.min_eq_left (by omega),e2]
 grind
theorem DigL.set{l:List Int}(h:DigL l){k:Nat}{d:Int}(h0:0<=d)(h1:d<1000000000):DigL (l.set k d):=fun x hx=>by
 rcases List.mem_or_eq_of_mem_set hx with h2|h2
 ·exact h x h2
 ·subst h2;exact⟨h0,h1⟩
theorem top_lt{l m:List Int}(hl:DigL l)(hm:DigL m){k:Nat}(he:∀i,k<i->digF l i=digF m i)(hlen:l.length=m.length)(h:digF l k<digF m k)(hk:k<l.length):valN l<valN m:=by
 have hdrop:l.drop (k+1)=m.drop (k+1):=by
  refine List.ext_getElem (by simp[hlen]) fun i h1 h2=>?_
  rw[List.length_drop]at h1 h2
  have:=he (k+1+i) (by omega)
  unfold digF at this
  rw[List.getElem?_eq_getElem (by omega),List.getElem?_eq_getElem (by omega)]at this
  simpa using this
 have e1:=zHT l (k+1)
 have e2:=zHT m (k+1)
 rw[zCF,hdrop]at e1
 rw[zCF]at e2
 have b1:=(hl.take k).bnd
 have b2:=(hm.take k).bnd
 rw[List.length_take,Nat.min_eq_left (by omega)]at b1
 have h3:=zHE k
 have:pw k*(digF l k+1)<=pw k*digF m k:=Int.mul_le_mul_of_nonneg_left (by omega) (by omega)
 rw[Int.mul_add]at this
 omega
end
section
open Go.RowKit
def NatV(w:World)(v:Value)(L:Nat)(N:Int):Prop:=∃a n cap,∃l:List Int,v=.slice a n cap∧l.length=n∧n<=L∧zAJ w a l∧DigL l∧zDF l∧valN l=N
theorem NatV.below{w w':World}{v:Value}{L:Nat}{N:Int}(h:NatV w v L N)(hb:Below w.heap.size w w'):NatV w' v L N:=by
 obtain⟨a,n,cap,l,h1,h2,h3,h4,h5⟩:=h
 exact⟨a,n,cap,l,h1,h2,h3,h4.below hb,h5⟩
theorem NatV.le{w:World}{v:Value}{L K:Nat}{N:Int}(h:NatV w v L N)(hk:L<=K):NatV w v K N:=by
 obtain⟨a,n,cap,l,h1,h2,h3,h4⟩:=h
 exact⟨a,n,cap,l,h1,h2,by omega,h4⟩
theorem NatV.nonneg{w:World}{v:Value}{L:Nat}{N:Int}(h:NatV w v L N):0<=N:=by
 obtain⟨a,n,cap,l,h1,h2,h3,h4,h5,h6,h7⟩:=h
 rw[<- h7];exact h5.bnd.1
theorem zGS(w:World)(a:Option Addr)(n cap:Nat)(l:List Int)(hn:l.length=n)(hm:n<=1000)(H:zAJ w a l)(i:Nat):
 Calls Tryz.prog 140 #[.slice a n cap,.int .i64 i] w fun e w'=>e=.returned (.int .i64 (digF l i))∧w=w':=by
 by_cases h:i<n
 ·obtain⟨b,o,rfl,hb,hc⟩:=H i (by omega)
  have hv:l[i]?.getD 0=digF l i:=rfl
  rw[hv]at hc
  have i1:(i:Int)<(n:Int):=by omega
  obtain⟨d,hd⟩:=exq (digF l i)
  rw[<- hd]at hc⊢
  clear H hn hv hd
  go_enter Tryz.func140,Tryz.ntmps140
  go_wp2
  go_ret
  exact⟨rfl,rfl⟩
 ·have i1:¬(i:Int)<(n:Int):=by omega
  have hd:digF l i=0:=by unfold digF;rw[List.getElem?_eq_none (by omega)];rfl
  rw[hd]
  clear H hn hd
  go_enter Tryz.func140,Tryz.ntmps140
  go_wp2
  go_ret
  exact⟨rfl,rfl⟩
theorem zIO:(Tryz.prog.info? 3).map (fun i=>(i.zero,i.size,i.bytes))=some (some (.int .i64 0),1,8):=by kernel_rfl
theorem zGO(w:World)(n:Int)(h0:0<=n)(h1:n<=9223372036854775807):
 Calls Tryz.prog 74 #[.int .i64 n] w fun e w'=>∃v,e=.returned v∧NatV w' v 3 n∧Below w.heap.size w w':=by
 have p3:pw 3=1000000000000000000000000000:=by decide+kernel
 go_enter Tryz.func74,Tryz.ntmps74
 go_wp2
 go_loopw [0,3] (fun m v wr=>∃(k:Int) (l:List Int),0<=k∧k<=n∧m=.int .i64 k∧wr.ownsRow w.heap.size 3 1 v l.length (l.map (Value.int .i64))∧Below w.heap.size w wr∧Hid (l.length<=3∧DigL l∧valN l+pw l.length*k=n∧(0<l.length->pw (l.length-1)<=n))) (fun m _ _=>(intOf m).toNat)
 case atStart=>exact⟨n,[],h0,Int.le_refl _,rfl,World.ownsRow_nil _ _ _ _,Below.refl _ _,hid ⟨by decide,DigL.nil,by simp[valN,pw],fun h=>by simp at h⟩⟩
 case round=>
  obtain⟨k,l,hk0,hkn,rfl,hown,hbk,HI⟩:=hrel
  by_cases hk:0<k
  ·obtain⟨L,hL⟩:=exq (l.length)
   rw[<- hL]at hown
   obtain⟨va,vc,rfl⟩:=zAH hown
   have HO:=hid hown
   obtain⟨i1,i2,i3,i4⟩:=HI.out
   have hb:=i2.bnd
   have hpk:pw l.length<=n:=by
    have h2:=zHE l.length
    have:pw l.length*1<=pw l.length*k:=Int.mul_le_mul_of_nonneg_left (by omega) (by omega)
    omega
   have hl2:l.length<=2:=by
    rcases Nat.lt_or_ge 2 l.length with h|h
    ·have:=pw_mono (show 3<=l.length by omega);omega
    ·exact h
   have et:k.tmod 1000000000=k%1000000000:=Int.tmod_eq_emod_of_nonneg hk0
   have ed:k.tdiv 1000000000=k/1000000000:=Int.tdiv_eq_ediv_of_nonneg hk0
   have HN:=hid (show(l++[k%1000000000]).length<=3∧DigL (l++[k%1000000000])∧valN (l++[k%1000000000])+pw (l++[k%1000000000]).length*(k/1000000000)=n∧(0<(l++[k%1000000000]).length->pw ((l++[k%1000000000]).length-1)<=n)from by
    refine⟨by simp;omega,i2.snoc (by omega) (by omega),?_,fun _=>by simpa using hpk⟩
    rw[zDL,List.length_append]
    simp only[List.length_cons,List.length_nil,Nat.zero_add]
    rw[pw]
    have:k=k%1000000000+1000000000*(k/1000000000):=by omega
    generalize k%1000000000=r at this⊢
    generalize k/1000000000=q at this⊢
    subst this
    grind)
   obtain⟨r,hr⟩:=exq (k%1000000000)
   obtain⟨q,hq⟩:=exq (k/1000000000)
   rw[<- hr]at et HN
   rw[<- hq]at ed HN
   have hr1:0<=r∧r<1000000000:=by omega
   have hq1:0<=q∧q<k:=by omega
   have M1:=hid (show L+1<=maxLen by unfold maxLen;omega)
   have M2:=hid (show(L+1)*8<=140737488355328 by omega)
   have M3:=hid (Nat.le_trans hbk.size (zCG wr (.cells #[.int .i64 r] 3)))
   have HLL:=hid hL
   clear hown i1 i2 i3 i4 hb hpk hl2 hr hq hL HI p3
   go_wp2_with (at_builtin;refine zBD _ rfl (.tmp 8) (.tmp 11) 35 rfl w.heap.size 3 (.int .i64 0) 1 8 Tryz.underlying35 zIO rfl Nat.one_pos (.slice va L vc) L _ rfl (HO.out.alloc _) (some ⟨wr.heap.size,0,none⟩) 1 1 [.int .i64 r] rfl rfl zCO (zCR wr _ _) (zHG _) M1.out M2.out M3.out ?_;refine Stop.of ?_)
   refine Stop.go ?_
   intro a3 c3 w3 own3 g3
   have hB3:Below w.heap.size w w3:=(hbk.alloc hbk.size _).grown g3 M3.out (fun k hk=>(HO.out.lt k hk).1)
   go_wp2
   refine⟨⟨q,l++[r],hq1.1,by omega,rfl,?_,hB3,HN⟩,by simp[intOf];omega⟩
   rw[List.length_append,<- HLL.out]
   simpa using own3
  ·obtain rfl:k=0:=by omega
   obtain⟨va,vc,rfl⟩:=zAH hown
   have HO:=hid hown
   obtain⟨i1,i2,i3,i4⟩:=HI.out
   rw[Int.mul_zero,Int.add_zero]at i3
   have HNV:=hid (show ∀a c,(Value.slice va l.length vc=.slice a l.length c->zAJ wr a l->NatV wr (.slice va l.length vc) 3 n)from fun a c e hI=>⟨a,l.length,c,l,e,rfl,i1,hI,i2,zDF.of_low i2 (fun h=>by rw[i3];exact i4 h),i3⟩)
   obtain⟨a5,c5,e5,hI5,_⟩:=zCP hown rfl
   have HF:=hid (HNV.out a5 c5 e5 hI5)
   clear hown i1 i2 i3 i4 HI HNV e5 hI5 p3
   go_wp2
   go_ret
   exact⟨_,rfl,HF.out,hbk⟩
def lenOf:Value->Nat
 | .slice _ k _=>k
 |_=>0
theorem trimmed_c(w:World)(a:Option Addr)(n cap:Nat)(l:List Int)(hn:l.length=n)(hm:n<=1000)(hc:n<=cap)(H:zAJ w a l)(hd:DigL l):
 Calls Tryz.prog 141 #[.slice a n cap] w fun e w'=>∃v,e=.returned v∧NatV w' v n (valN l)∧Below w.heap.size w w':=by
 have HN:=hid hn
 have HH:=hid H
 have HD:=hid hd
 clear hn H hd
 go_enter Tryz.func141,Tryz.ntmps141
 go_wp2
 go_loopw [0] (fun v wr=>∃k:Nat,k<=n∧v=.slice a k cap∧wr=w∧Hid (valN (l.take k)=valN l)) (fun v _=>lenOf v)
 case atStart=>exact⟨n,Nat.le_refl _,rfl,rfl,hid (zCQ (by rw[HN.out];exact Nat.le_refl _))⟩
 case round=>
  obtain⟨k,hk,rfl,rfl,HV⟩:=hrel
  have hfin:zDF (l.take k)->NatV wr (.slice a k cap) n (valN l):=fun ht=>by
   refine⟨a,k,cap,l.take k,rfl,by rw[List.length_take,HN.out];omega,hk,fun j hj=>?_,HD.out.take k,ht,HV.out⟩
   rw[List.length_take]at hj
   obtain⟨b,o,e,hb,hc⟩:=HH.out j (by omega)
   refine⟨b,o,e,hb,?_⟩
   rw[hc,List.getElem?_take_of_lt (by omega)]
  have HF:=hid hfin
  clear hfin
  rcases Nat.eq_zero_or_pos k with hk0|hk0
  ·subst hk0
   have hF:=HF.out (by rw[List.take_zero];exact zDF.nil)
   have HFF:=hid hF
   clear hF HF
   go_wp2
   go_ret
   exact⟨_,rfl,HFF.out,Below.refl _ _⟩
  ·obtain⟨j,rfl⟩:∃j,k=j+1:=⟨k-1,by omega⟩
   obtain⟨b,o,rfl,hb,hcj⟩:=HH.out j (by rw[HN.out];omega)
   have hv:l[j]?.getD 0=digF l j:=rfl
   rw[hv]at hcj
   have htv:=zCF l j
   have HX:=hid (fun(h:digF l j=0)=>show valN (l.take j)=valN l from by rw[<- HV.out,htv,h];simp)
   have HY:=hid (fun(h:digF l j≠0)=>HF.out (by
    have hjl:j<l.length:=by rw[HN.out];omega
    rw[List.take_succ_eq_append_getElem hjl]
    unfold zDF
    simp only[List.getLast?_append,List.getLast?_singleton]
    intro e
    refine h ?_
    unfold digF
    rw[List.getElem?_eq_getElem hjl]
    simpa using e))
   obtain⟨d,hdd⟩:=exq (digF l j)
   rw[<- hdd]at hcj HX HY
   have i1:((j+1:Nat):Int)-1=(j:Int):=by omega
   have i2:(j:Int)<((j+1:Nat):Int):=by omega
   have i3:(0:Int)<((j+1:Nat):Int):=by omega
   have i4:IntKind.i64.wrap (((j+1:Nat):Int)-1)=(j:Int):=by rw[i1];exact IntWalk.i64_in _ (by omega)
   have i5:(j:Int)<=(cap:Int):=by omega
   obtain⟨J,hJ⟩:=exq (j+1)
   rw[<- hJ]at i1 i2 i3 i4 hk HY HF⊢
   by_cases h0:d=0
   ·have hz:=HX.out h0
    have HZ:=hid hz
    have hjn:j<=n:=by omega
    have hJJ:j<J:=by omega
    subst h0
    clear hz HX HY HF hv htv hdd HV hJ
    go_wp2
    exact⟨⟨j,hjn,rfl,by first|trivial|rfl,HZ⟩,by simp[lenOf];omega⟩
   ·have hF:=HY.out h0
    have HFF:=hid hF
    have hdb:(d==0)=false:=by simp[h0]
    clear hF HX HY HF hv htv hdd HV hJ
    go_wp2
    go_ret
    exact⟨_,rfl,HFF.out,Below.refl _ _⟩
theorem ord_len{l m:List Int}(hl:DigL l)(hm:DigL m)(tl:zDF l)(tm:zDF m)(h:l.length≠m.length):cmpI (valN l) (valN m)=if l.length<m.length then-1 else 1:=by
 unfold cmpI
 by_cases c:l.length<m.length
 ·rw[if_pos c,if_pos (trim_lt hl hm tm c)]
 ·have:=trim_lt hm hl tl (by omega)
  rw[if_neg c,if_neg (by omega),if_neg (by omega)]
theorem cmp_swap(V U:Int)(h:U<V):cmpI V U=1:=by unfold cmpI;rw[if_neg (by omega),if_neg (by omega)]
theorem order_c(w:World)(v u:Value)(L K:Nat)(N M:Int)(h:NatV w v L N)(k:NatV w u K M)(hL:L<=1000)(hK:K<=1000):
 Calls Tryz.prog 77 #[v,u] w fun e w'=>e=.returned (.int .i64 (cmpI N M))∧Below w.heap.size w w':=by
 obtain⟨a,n,cap,l,rfl,hn,hnL,H,hd,ht,rfl⟩:=h
 obtain⟨a2,n2,cap2,m,rfl,hn2,hnK,H2,hd2,ht2,rfl⟩:=k
 by_cases hlen:n=n2
 rotate_left
 ·have hc:=ord_len hd hd2 ht ht2 (by omega)
  rw[hn,hn2]at hc
  rw[hc]
  have hneb:((n:Int) !=(n2:Int))=true:=by simp;omega
  clear H H2 hd hd2 ht ht2 hc hn hn2
  by_cases c:n<n2
  ·have i1:(n:Int)<(n2:Int):=by omega
   rw[if_pos c]
   go_enter Tryz.func77,Tryz.ntmps77
   go_wp2
   go_ret
   exact⟨rfl,Below.refl _ _⟩
  ·have i1:¬(n:Int)<(n2:Int):=by omega
   rw[if_neg c]
   go_enter Tryz.func77,Tryz.ntmps77
   go_wp2
   go_ret
   exact⟨rfl,Below.refl _ _⟩
 subst hlen
 have HT:=hid (fun(i:Nat) (he:∀j,i<j->digF l j=digF m j) (hi:i<n)=>(show(digF l i<digF m i->cmpI (valN l) (valN m)= -1)∧(digF m i<digF l i->cmpI (valN l) (valN m)=1)from
  ⟨fun h=>by unfold cmpI;rw[if_pos (top_lt hd hd2 he (by omega) h (by omega))],fun h=>cmp_swap _ _ (top_lt hd2 hd (fun j hj=>(he j hj).symm) (by omega) h (by omega))⟩))
 have HE:=hid (fun(he:∀j,digF l j=digF m j)=>show cmpI (valN l) (valN m)=0 from by
  have:l=m:=List.ext_getElem (by omega) fun i h1 h2=>by
   have:=he i
   unfold digF at this
   rw[List.getElem?_eq_getElem h1,List.getElem?_eq_getElem h2]at this
   simpa using this
  rw[this];unfold cmpI;rw[if_neg (by omega),if_pos rfl])
 obtain⟨C,hC⟩:=exq (cmpI (valN l) (valN m))
 rw[<- hC]at HT HE⊢
 have HH:=hid (fun(X:World) (hX:Below w.heap.size w X)=>H.below hX)
 have HH2:=hid (fun(X:World) (hX:Below w.heap.size w X)=>H2.below hX)
 have HN:=hid hn
 have HN2:=hid hn2
 have hsub:IntKind.i64.wrap ((n:Int)-1)=(n:Int)-1:=IntWalk.i64_in _ (by omega)
 have hneb:((n:Int) !=(n:Int))=false:=by simp
 have HOUT:=hid (show ∀j,n<=j->digF l j=digF m j from fun j hj=>by
  unfold digF
  rw[List.getElem?_eq_none (by omega),List.getElem?_eq_none (by omega)])
 clear H H2 hd hd2 ht ht2 hC hn hn2
 go_enter Tryz.func77,Tryz.ntmps77
 go_wp2
 go_loopw [5] (fun i wr=>∃k:Nat,k<=n∧i=.int .i64 ((k:Int)-1)∧Below w.heap.size w wr∧Hid (∀j,k<=j->digF l j=digF m j)) (fun i _=>(intOf i+1).toNat)
 case atStart=>exact⟨n,Nat.le_refl _,by simp,Below.refl _ _,HOUT⟩
 case round=>
  obtain⟨k,hk,rfl,hbk,HQ⟩:=hrel
  rcases Nat.eq_zero_or_pos k with hk0|hk0
  ·subst hk0
   obtain rfl:C=0:=HE.out fun j=>HQ.out j (Nat.zero_le _)
   go_wp2
   go_ret
   exact⟨rfl,hbk⟩
  ·obtain⟨j,rfl⟩:∃j,k=j+1:=⟨k-1,by omega⟩
   obtain⟨b,o,rfl,hb,hc⟩:=(HH.out wr hbk) j (by rw[HN.out];omega)
   obtain⟨b2,o2,rfl,hb2,hc2⟩:=(HH2.out wr hbk) j (by rw[HN2.out];omega)
   have hv:l[j]?.getD 0=digF l j:=rfl
   have hv2:m[j]?.getD 0=digF m j:=rfl
   rw[hv]at hc
   rw[hv2]at hc2
   obtain⟨HT1,HT2⟩:=HT.out j (fun i hi=>HQ.out i (by omega)) (by omega)
   have HX:=hid (fun(h:digF l j=digF m j)=>show ∀i,j<=i->digF l i=digF m i from fun i hi=>by
    rcases Nat.lt_or_ge j i with h1|h1
    ·exact HQ.out i (by omega)
    ·obtain rfl:i=j:=by omega
     exact h)
   obtain⟨x,hx⟩:=exq (digF l j)
   obtain⟨y,hy⟩:=exq (digF m j)
   rw[<- hx,<- hy]at HX HT1 HT2
   rw[<- hx]at hc
   rw[<- hy]at hc2
   have e1:((j+1:Nat):Int)-1=(j:Int):=by omega
   rw[e1]
   have i1:(j:Int)<(n:Int):=by omega
   have i2:IntKind.i64.wrap ((j:Int)-1)=(j:Int)-1:=IntWalk.i64_in _ (by omega)
   clear hv hv2 hx hy HQ HT HE e1
   rcases Int.lt_trichotomy x y with c|c|c
   ·obtain rfl:C= -1:=HT1 c
    have HBK:=hid hbk
    clear HT1 HT2 hbk
    go_wp2
    go_quiet (fail)
    go_wp2
    go_ret
    exact⟨rfl,zAV HBK.out _⟩
   ·have hz:=HX.out c
    have HZ:=hid hz
    subst c
    have HBK:=hid hbk
    clear HT1 HT2 hz HX hbk
    go_wp2
    go_quiet (fail)
    go_wp2
    go_quiet (fail)
    go_wp2
    refine⟨⟨j,by omega,rfl,zAV HBK.out _,HZ⟩,by simp[intOf]⟩
   ·obtain rfl:C=1:=HT2 c
    have i3:¬x<y:=by omega
    have HBK:=hid hbk
    clear HT1 HT2 hbk
    go_wp2
    go_quiet (fail)
    go_wp2
    go_quiet (fail)
    go_wp2
    go_ret
    exact⟨rfl,zAV (zAV HBK.out _) _⟩
end
section
open Go.RowKit
theorem plus_c(w:World)(v u:Value)(L K:Nat)(N M:Int)(h:NatV w v L N)(k:NatV w u K M)(hL:L<=400)(hK:K<=400):
 Calls Tryz.prog 76 #[v,u] w fun e w'=>∃x,e=.returned x∧NatV w' x (max L K+1) (N+M)∧Below w.heap.size w w':=by
 obtain⟨a,n,cap,l,rfl,hn,hnL,H,hd,ht,rfl⟩:=h
 obtain⟨a2,n2,cap2,m,rfl,hn2,hnK,H2,hd2,ht2,rfl⟩:=k
 have HD1:=hid (fun(X:World) (hX:Below w.heap.size w X) (i:Nat)=>zGS X a n cap l hn (by omega) (H.below hX) i)
 have HD2:=hid (fun(X:World) (hX:Below w.heap.size w X) (i:Nat)=>zGS X a2 n2 cap2 m hn2 (by omega) (H2.below hX) i)
 obtain⟨T,hT⟩:=exq (max n n2)
 have hTL:T<=max L K:=by omega
 -- how the sum grows
 have HST:=hid (fun(i:Nat) (o:List Int) (c:Int) (ho:o.length=i) (hod:DigL o) (hc:0<=c∧c<=1) (hv:valN o+pw i*c=valN (l.take i)+valN (m.take i))=>
  show 0<=digF l i+digF m i+c∧digF l i+digF m i+c<=1999999999∧DigL (o++[(digF l i+digF m i+c)%1000000000])∧(0<=(digF l i+digF m i+c)/1000000000∧(digF l i+digF m i+c)/1000000000<=1)∧
   valN (o++[(digF l i+digF m i+c)%1000000000])+pw (i+1)*((digF l i+digF m i+c)/1000000000)=valN (l.take (i+1))+valN (m.take (i+1))from by
  have b1:=zCH hd i
  have b2:=zCH hd2 i
  refine⟨by omega,by omega,hod.snoc (by omega) (by omega),by omega,?_⟩
  rw[zDL,ho,zCF,zCF,pw]
  have:digF l i+digF m i+c=(digF l i+digF m i+c)%1000000000+1000000000*((digF l i+digF m i+c)/1000000000):=by omega
  generalize (digF l i+digF m i+c)%1000000000=r at this⊢
  generalize (digF l i+digF m i+c)/1000000000=q at this⊢
  have e:c=r+1000000000*q-digF l i-digF m i:=by omega
  subst e
  grind)
 -- the sum when no more is to be added
 have HEN:=hid (fun(i:Nat) (o:List Int) (ho:o.length=i) (hod:DigL o) (hi:T<=i) (hi2:i<=T+1) (hv:valN o+pw i*0=valN (l.take i)+valN (m.take i)) (hlast:T<i->pw T<=valN l+valN m)=>
  show valN o=valN l+valN m∧zDF o from by
  rw[zCQ (show l.length<=i by omega),zCQ (show m.length<=i by omega)]at hv
  refine⟨by omega,zDF.of_low hod fun hpos=>?_⟩
  rw[ho]at hpos⊢
  rcases Nat.lt_or_ge T i with c|c
  ·obtain rfl:i=T+1:=by omega
   have:=hlast c
   rw[Nat.add_sub_cancel];omega
  ·obtain rfl:i=T:=by omega
   have c1:=hd.bnd
   have c2:=hd2.bnd
   rcases Nat.lt_or_ge n n2 with c|c
   ·have:=ht2.low hd2 (by omega)
    rw[show m.length=i by omega]at this
    omega
   ·have:=ht.low hd (by omega)
    rw[show l.length=i by omega]at this
    omega)
 have HLA:=hid (fun(o:List Int) (hod:DigL o) (ho:o.length=T) (hv:valN o+pw T*1=valN (l.take T)+valN (m.take T))=>show pw T<=valN l+valN m from by
  rw[zCQ (show l.length<=T by omega),zCQ (show m.length<=T by omega)]at hv
  have:=hod.bnd
  omega)
 have HZD:=hid (fun(i:Nat) (hi:T<=i)=>show digF l i=0∧digF m i=0 from by
  unfold digF
  rw[List.getElem?_eq_none (by omega),List.getElem?_eq_none (by omega)]
  exact⟨rfl,rfl⟩)
 have HDB:=hid (fun(i:Nat)=>And.intro (zCH hd i) (zCH hd2 i))
 obtain⟨S,hS⟩:=exq (valN l+valN m)
 rw[<- hS]at HEN HLA⊢
 have hT1:n<=T:=by omega
 have hT2:n2<=T:=by omega
 have hT3:T=n∨T=n2:=by omega
 have hT4:T<=400:=by omega
 clear H H2 hd hd2 ht ht2 hn hn2 hS hT
 go_enter Tryz.func76,Tryz.ntmps76
 go_wp2
 go_loopw [5,6,7] (fun o c i wr=>∃(t:Nat) (ol:List Int) (cc:Int),t<=T+1∧i=.int .i64 t∧c=.int .i64 cc∧wr.ownsRow w.heap.size 3 1 o t (ol.map (Value.int .i64))∧Below w.heap.size w wr∧0<=cc∧cc<=1∧
  Hid (ol.length=t∧DigL ol∧valN ol+pw t*cc=valN (l.take t)+valN (m.take t)∧(T<t->cc=0∧pw T<=S))) (fun _ _ i _=>T+2-(intOf i).toNat)
 case atStart=>exact⟨0,[],0,Nat.zero_le _,rfl,rfl,World.ownsRow_nil _ _ _ _,Below.refl _ _,by decide,by decide,hid ⟨rfl,DigL.nil,by simp[valN],fun h=>by omega⟩⟩
 case round=>
  obtain⟨t,ol,cc,ht,rfl,rfl,hown,hbk,hc0,hc1,HI⟩:=hrel
  obtain⟨va,vc,rfl⟩:=zAH hown
  by_cases hgo:t<T∨0<cc
  ·have htT:t<=T:=by
    rcases hgo with h|h
    ·omega
    ·rcases Nat.lt_or_ge T t with c|c
     ·have:=(HI.out.2.2.2 c).1;omega
     ·exact c
   obtain⟨j1,j2,j3,j4,j5⟩:=HST.out t ol cc HI.out.1 HI.out.2.1 ⟨hc0,hc1⟩ HI.out.2.2.1
   have hlast:t=T->cc=1:=fun e=>by omega
   have HC1:=hid (HD1.out wr hbk t)
   have HC2:=hid (HD2.out wr hbk t)
   have HLT:=hid (show T<t+1->(digF l t+digF m t+cc)/1000000000=0∧pw T<=S from fun h=>by
    obtain rfl:t=T:=by omega
    have hcc:=hlast rfl
    subst hcc
    refine⟨?_,HLA.out ol HI.out.2.1 HI.out.1 HI.out.2.2.1⟩
    obtain⟨z1,z2⟩:=HZD.out t (Nat.le_refl _)
    rw[z1,z2];decide)
   obtain⟨⟨bx1,bx2⟩,by1,by2⟩:=HDB.out t
   obtain⟨x,hx⟩:=exq (digF l t)
   obtain⟨y,hy⟩:=exq (digF m t)
   rw[<- hx,<- hy]at j1 j2 j3 j4 j5 HLT
   rw[<- hx]at bx1 bx2
   rw[<- hy]at by1 by2
   rw[<- hx]at HC1
   rw[<- hy]at HC2
   have et:(x+y+cc).tmod 1000000000=(x+y+cc)%1000000000:=Int.tmod_eq_emod_of_nonneg j1
   have ed:(x+y+cc).tdiv 1000000000=(x+y+cc)/1000000000:=Int.tdiv_eq_ediv_of_nonneg j1
   obtain⟨z,hz⟩:=exq (x+y+cc)
   have e1:IntKind.i64.wrap (x+y)=x+y:=IntWalk.i64_in _ (by omega)
   have e2:IntKind.i64.wrap (x+y+cc)=z:=by rw[<- hz];exact IntWalk.i64_in _ (by omega)
   rw[<- hz]at et ed j1 j2 j3 j4 j5 HLT
   obtain⟨r,hr⟩:=exq (z%1000000000)
   obtain⟨q,hq⟩:=exq (z/1000000000)
   rw[<- hr]at et j3 j5
   rw[<- hq]at ed j4 j5 HLT
   have HNX:=hid (show(ol++[r]).length=t+1∧DigL (ol++[r])∧valN (ol++[r])+pw (t+1)*q=valN (l.take (t+1))+valN (m.take (t+1))∧(T<t+1->q=0∧pw T<=S)from⟨by simp[HI.out.1],j3,j5,HLT.out⟩)
   have HO:=hid hown
   have HBK:=hid hbk
   have M1:=hid (show t+1<=maxLen by unfold maxLen;omega)
   have M2:=hid (show(t+1)*8<=140737488355328 by omega)
   have M3:=hid (Nat.le_trans hbk.size (zCG wr (.cells #[.int .i64 r] 3)))
   have hgo3:t<n∨(¬t<n∧t<n2)∨(¬t<n∧¬t<n2∧0<cc):=by omega
   clear hown hbk HI HLT hx hy hz hr hq j1 j2 j3 j5 hlast hgo bx1 bx2 by1 by2 HST HEN HLA HZD HDB
   rcases hgo3 with g1|⟨g1,g2⟩|⟨g1,g2,g3⟩
   all_goals
    go_wp2_with (go_at_call 140;refine HC1.out.mono ?_;rintro e w1 ⟨rfl,rfl⟩;refine Stop.of ?_)
    refine Stop.go ?_
    go_wp2_with (go_at_call 140;refine HC2.out.mono ?_;rintro e w1 ⟨rfl,rfl⟩;refine Stop.of ?_)
    refine Stop.go ?_
    go_wp2_with (at_builtin;refine zBD _ rfl (.tmp 34) (.tmp 37) 35 rfl w.heap.size 3 (.int .i64 0) 1 8 Tryz.underlying35 zIO rfl Nat.one_pos (.slice va t vc) t _ rfl (HO.out.alloc _) (some ⟨wr.heap.size,0,none⟩) 1 1 [.int .i64 r] rfl rfl zCO (zCR wr _ _) (zHG _) M1.out M2.out M3.out ?_;refine Stop.of ?_)
    refine Stop.go ?_
    intro a3 c3 w3 own3 g3'
    have hB3:Below w.heap.size w w3:=(HBK.out.alloc HBK.out.size _).grown g3' M3.out (fun k hk=>(HO.out.lt k hk).1)
    go_wp2
    refine⟨⟨t+1,ol++[r],q,by omega,by go_num,rfl,?_,hB3,j4.1,j4.2,HNX⟩,by simp[intOf];omega⟩
    simpa using own3
  ·have g1:¬t<n:=by omega
   have g2:¬t<n2:=by omega
   have g3:¬0<cc:=by omega
   obtain rfl:cc=0:=by omega
   obtain⟨i1,i2,i3,i4⟩:=HI.out
   obtain⟨k1,k2⟩:=HEN.out t ol i1 i2 (by omega) ht i3 (fun h=>(i4 h).2)
   obtain⟨a5,c5,e5,hI5,_⟩:=zCP hown i1
   cases e5
   have HF:=hid (show NatV wr (.slice va t vc) (max L K+1) S from⟨va,t,vc,ol,rfl,i1,by omega,hI5,i2,k2,k1⟩)
   have HBK:=hid hbk
   clear hown hbk HI i1 i2 i3 i4 k1 k2 hI5
   go_wp2
   go_ret
   exact⟨_,rfl,HF.out,HBK.out⟩
end
section
open Go.RowKit
theorem minus_c(w:World)(v u:Value)(L K:Nat)(N M:Int)(h:NatV w v L N)(k:NatV w u K M)(hL:L<=1000)(hK:K<=1000)(hle:M<=N):
 Calls Tryz.prog 78 #[v,u] w fun e w'=>∃x,e=.returned x∧NatV w' x L (N-M)∧Below w.heap.size w w':=by
 obtain⟨a,n,cap,l,rfl,hn,hnL,H,hd,ht,rfl⟩:=h
 obtain⟨a2,n2,cap2,m,rfl,hn2,hnK,H2,hd2,ht2,rfl⟩:=k
 have HD2:=hid (fun(X:World) (hX:Below w.heap.size w X) (i:Nat)=>zGS X a2 n2 cap2 m hn2 (by omega) (H2.below hX) i)
 have HH:=hid (fun(X:World) (hX:Below w.heap.size w X)=>H.below hX)
 have HN:=hid hn
 have hml:=trim_le hd2 hd ht2 hle
 have HDB:=hid (fun(i:Nat)=>And.intro (zCH hd i) (zCH hd2 i))
 have HEN:=hid (fun(o:List Int) (c:Int) (ho:o.length=n) (hod:DigL o) (hc:0<=c) (hv:valN o-pw n*c=valN (l.take n)-valN (m.take n))=>show valN o=valN l-valN m from by
  rw[zCQ (show l.length<=n by omega),zCQ (show m.length<=n by omega)]at hv
  have hb:=hod.bnd
  rw[ho]at hb
  have hp:=zHE n
  rcases Int.lt_or_le 0 c with h|h
  ·have:pw n*1<=pw n*c:=Int.mul_le_mul_of_nonneg_left (by omega) (by omega)
   omega
  ·obtain rfl:c=0:=by omega
   omega)
 have HST:=hid (fun(i:Nat) (o:List Int) (c r c':Int) (ho:o.length=i) (hv:valN o-pw i*c=valN (l.take i)-valN (m.take i)) (hr:r=digF l i-digF m i-c+1000000000*c')=>
  show valN (o++[r])-pw (i+1)*c'=valN (l.take (i+1))-valN (m.take (i+1))from by
  rw[zDL,ho,zCF,zCF,pw]
  subst hr
  grind)
 obtain⟨S,hS⟩:=exq (valN l-valN m)
 rw[<- hS]at HEN⊢
 clear H H2 hd hd2 ht ht2 hn hn2 hS hle hml
 go_enter Tryz.func78,Tryz.ntmps78
 go_wp2
 go_loopw [5,6,11] (fun o c i wr=>∃(t:Nat) (ol:List Int) (cc:Int),t<=n∧i=.int .i64 t∧c=.int .i64 cc∧wr.ownsRow w.heap.size 3 1 o t (ol.map (Value.int .i64))∧Below w.heap.size w wr∧0<=cc∧cc<=1∧
  Hid (ol.length=t∧DigL ol∧valN ol-pw t*cc=valN (l.take t)-valN (m.take t))) (fun _ _ i _=>n-(intOf i).toNat)
 case atStart=>exact⟨0,[],0,Nat.zero_le _,rfl,rfl,World.ownsRow_nil _ _ _ _,Below.refl _ _,by decide,by decide,hid ⟨rfl,DigL.nil,by simp[valN]⟩⟩
 case round=>
  obtain⟨t,ol,cc,ht,rfl,rfl,hown,hbk,hc0,hc1,HI⟩:=hrel
  obtain⟨va,vc,rfl⟩:=zAH hown
  by_cases hlt:t<n
  ·obtain⟨b,o,rfl,hb,hc⟩:=(HH.out wr hbk) t (by rw[HN.out];exact hlt)
   have hv:l[t]?.getD 0=digF l t:=rfl
   rw[hv]at hc
   obtain⟨⟨bx1,bx2⟩,by1,by2⟩:=HDB.out t
   have HS:=hid (fun r c' (hr:r=digF l t-digF m t-cc+1000000000*c')=>HST.out t ol cc r c' HI.out.1 HI.out.2.2 hr)
   have HDG:=hid (fun(X:World) (hX:Below w.heap.size w X)=>HD2.out X hX t)
   obtain⟨x,hx⟩:=exq (digF l t)
   obtain⟨y,hy⟩:=exq (digF m t)
   rw[<- hx]at hc bx1 bx2 HS
   rw[<- hy]at by1 by2 HS HDG
   have e1:IntKind.i64.wrap (x-y)=x-y:=IntWalk.i64_in _ (by omega)
   obtain⟨z,hz⟩:=exq (x-y-cc)
   have e2:IntKind.i64.wrap (x-y-cc)=z:=by rw[<- hz];exact IntWalk.i64_in _ (by omega)
   rw[<- hz]at HS
   have hzb: -1000000000<=z∧z<1000000000:=by omega
   have hO:=hid hown
   have HO:=hid (fun(X:World) (hX:Below wr.heap.size wr X)=>zBF hown hX)
   have HBK:=hid hbk
   have M1:=hid (show t+1<=maxLen by unfold maxLen;omega)
   have M2:=hid (show(t+1)*8<=140737488355328 by omega)
   have i1:(t:Int)<(n:Int):=by omega
   clear hown hv hx hy hz HST HEN HDB bx1 bx2 by1 by2 hO hb
   go_wp2
   go_quiet (first| (go_at_call 140;exact Calls.quiet_of_same ((HDG.out _ (by repeat (first|exact hbk|refine zAV ?_ _))).mono fun _ _ h=>⟨h.1,h.2.symm⟩)))
   have HB2:=hid (zAV HBK.out nq)
   have HO2:=hid (HO.out _ (zAV (Below.refl _ _) nq))
   clear HO hbk hc HDG HH HD2 HBK
   generalize wr.drewN nq=wq at HB2 HO2⊢
   by_cases hneg:z<0
   ·obtain⟨r,hr⟩:=exq (z+1000000000)
    have e3:IntKind.i64.wrap (z+1000000000)=r:=by rw[<- hr];exact IntWalk.i64_in _ (by omega)
    have HNX:=hid (show(ol++[r]).length=t+1∧DigL (ol++[r])∧valN (ol++[r])-pw (t+1)*1=valN (l.take (t+1))-valN (m.take (t+1))from⟨by simp[HI.out.1],HI.out.2.1.snoc (by omega) (by omega),HS.out r 1 (by omega)⟩)
    have M3:=hid (Nat.le_trans HB2.out.size (zCG wq (.cells #[.int .i64 r] 3)))
    clear hr HI HS
    go_wp2_with (at_builtin;refine zBD _ rfl (.tmp 28) (.tmp 30) 35 rfl w.heap.size 3 (.int .i64 0) 1 8 Tryz.underlying35 zIO rfl Nat.one_pos (.slice va t vc) t _ rfl (HO2.out.alloc _) (some ⟨wq.heap.size,0,none⟩) 1 1 [.int .i64 r] rfl rfl zCO (zCR wq _ _) (zHG _) M1.out M2.out M3.out ?_;refine Stop.of ?_)
    refine Stop.go ?_
    intro a3 c3 w3 own3 g3'
    have hB3:Below w.heap.size w w3:=(HB2.out.alloc HB2.out.size _).grown g3' M3.out (fun k hk=>(HO2.out.lt k hk).1)
    go_wp2
    refine⟨⟨t+1,ol++[r],1,by omega,by go_num,rfl,?_,hB3,by decide,by decide,HNX⟩,by simp[intOf];omega⟩
    simpa using own3
   ·have HNX:=hid (show(ol++[z]).length=t+1∧DigL (ol++[z])∧valN (ol++[z])-pw (t+1)*0=valN (l.take (t+1))-valN (m.take (t+1))from⟨by simp[HI.out.1],HI.out.2.1.snoc (by omega) (by omega),HS.out z 0 (by omega)⟩)
    have M3:=hid (Nat.le_trans HB2.out.size (zCG wq (.cells #[.int .i64 z] 3)))
    clear HI HS
    go_wp2_with (at_builtin;refine zBD _ rfl (.tmp 28) (.tmp 30) 35 rfl w.heap.size 3 (.int .i64 0) 1 8 Tryz.underlying35 zIO rfl Nat.one_pos (.slice va t vc) t _ rfl (HO2.out.alloc _) (some ⟨wq.heap.size,0,none⟩) 1 1 [.int .i64 z] rfl rfl zCO (zCR wq _ _) (zHG _) M1.out M2.out M3.out ?_;refine Stop.of ?_)
    refine Stop.go ?_
    intro a3 c3 w3 own3 g3'
    have hB3:Below w.heap.size w w3:=(HB2.out.alloc HB2.out.size _).grown g3' M3.out (fun k hk=>(HO2.out.lt k hk).1)
    go_wp2
    refine⟨⟨t+1,ol++[z],0,by omega,by go_num,rfl,?_,hB3,by decide,by decide,HNX⟩,by simp[intOf];omega⟩
    simpa using own3
  ·obtain rfl:t=n:=by omega
   obtain⟨i1,i2,i3⟩:=HI.out
   have hS:=HEN.out ol cc i1 i2 hc0 i3
   obtain⟨a5,c5,e5,hI5,_⟩:=zCP hown i1
   cases e5
   have HT:=hid (trimmed_c wr va t vc ol i1 (by omega) (own_cap hown) hI5 i2)
   rw[hS]at HT
   have HBK:=hid hbk
   clear hown hbk HI i1 i2 i3 hI5 hS HST HEN
   go_wp2_with (go_at_call 141;refine HT.out.mono ?_;rintro e w2 ⟨v2,rfl,hv2,hb2⟩;refine Stop.of ?_)
   refine Stop.go ?_
   have HF:=hid (hv2.le hnL)
   have HB2:=hid (zAA HBK.out hb2)
   clear hv2 hb2
   go_wp2
   go_ret
   exact⟨_,rfl,HF.out,HB2.out⟩
end
section
open Go.RowKit
theorem sp_madeN(w:World)(k:Nat):zBE (w.alloc (.cells (madeCells #[.int .i64 0] k) 3)) w.heap.size (List.replicate k 0):=by
 have e:madeCells #[Value.int .i64 0] k=((List.replicate k (0:Int)).map (Value.int .i64)).toArray:=by
  apply Array.toList_inj.1
  rw[toList_madeCells_one];simp
 exact⟨[],by rw[World.alloc_heap_new,e,List.append_nil]⟩
theorem valN_rep(k:Nat):valN (List.replicate k 0)=0:=by
 induction k with
 |zero=>rfl
 |succ k ih=>rw[List.replicate_succ,valN,ih];rfl
theorem digF_rep(k i:Nat):digF (List.replicate k 0) i=0:=by
 unfold digF
 rcases Nat.lt_or_ge i k with h|h
 ·rw[List.getElem?_eq_getElem (by simpa using h)];simp
 ·rw[List.getElem?_eq_none (by simpa using h)];rfl
theorem zKQ{l:List Int}{k i:Nat}{d:Int}(h:k≠i):digF (l.set k d) i=digF l i:=by
 unfold digF;rw[List.getElem?_set_ne h]
theorem mul_dig{x y:Int}(hx:0<=x∧x<1000000000)(hy:0<=y∧y<1000000000):0<=x*y∧x*y<=999999998000000001:=by
 refine⟨Int.mul_nonneg hx.1 hy.1,?_⟩
 have h1:x*y<=999999999*y:=Int.mul_le_mul_of_nonneg_right (by omega) hy.1
 omega
theorem zEW(w:World)(v u:Value)(L K:Nat)(N M:Int)(h:NatV w v L N)(k:NatV w u K M)(hL:L<=400)(hK:K<=400):
 Calls Tryz.prog 75 #[v,u] w fun e w'=>∃x,e=.returned x∧NatV w' x (L+K) (N*M)∧Below w.heap.size w w':=by
 obtain⟨a,n,cap,l,rfl,hn,hnL,H,hd,ht,rfl⟩:=h
 obtain⟨a2,n2,cap2,m,rfl,hn2,hnK,H2,hd2,ht2,rfl⟩:=k
 have HD2:=hid (fun(X:World) (hX:Below w.heap.size w X) (i:Nat)=>zGS X a2 n2 cap2 m hn2 (by omega) (H2.below hX) i)
 have HH:=hid (fun(X:World) (hX:Below w.heap.size w X)=>H.below hX)
 have HN:=hid hn
 have HDX:=hid (fun(i:Nat)=>zCH hd i)
 have HDY:=hid (fun(i:Nat)=>zCH hd2 i)
 have HZY:=hid (show digF m n2=0 from by unfold digF;rw[List.getElem?_eq_none (by omega)];rfl)
 have HTM:=hid (fun j (hj:n2<=j)=>show valN (m.take j)=valN m from zCQ (by omega))
 have HTL:=hid (show valN (l.take n)=valN l from zCQ (by omega))
 have HTS:=hid (fun i=>zCF l i)
 have HTS2:=hid (fun i=>zCF m i)
 obtain⟨P,hP⟩:=exq (valN l*valN m)
 rw[<- hP]
 have HP:=hid hP
 obtain⟨Z,hZ⟩:=exq (n+n2)
 have hZ4:Z<=800:=by omega
 have hZL:Z<=L+K:=by omega
 have hmk:∀w,(Instr.makeSlice 35 (.int .i64 ((n:Int)+(n2:Int))) (.int .i64 ((n:Int)+(n2:Int)))).run Tryz.prog w=.ok (.slice (some ⟨w.heap.size,0,none⟩) Z Z) (w.alloc (.cells (madeCells #[.int .i64 0] Z) 3)):=
  fun w=>by rw[show(n:Int)+(n2:Int)=((Z:Nat):Int)by omega];exact run_make_row' 35 3 (.int .i64 0) 8 Tryz.underlying35 zIO rfl .i64 .i64 Z (by omega) (by omega) w
 obtain⟨g,hg⟩:=exq (w.heap.size)
 obtain⟨wa,hwa⟩:=exq (w.alloc (.cells (madeCells #[.int .i64 0] Z) 3))
 have hba:Below w.heap.size w wa:=by rw[hwa];exact(Below.refl _ _).alloc (Nat.le_refl _) _
 have hsp:zBE wa g (List.replicate Z 0):=by rw[hwa,hg];exact sp_madeN w Z
 have HSP:=hid hsp
 have HBA:=hid hba
 have HG:=hid (show w.heap.size<=g by omega)
 have HZ:=hid hZ
 clear hZ
 clear H H2 hd hd2 ht ht2 hn hn2 hP hsp hba
 go_enter Tryz.func75,Tryz.ntmps75
 go_wp2_with fail
 rw[<- hg,<- hwa]
 clear hg hwa hmk
 go_loopw [19] (fun i wr=>∃(t:Nat) (o:List Int),t<=n∧i=.int .i64 t∧zBE wr g o∧Below w.heap.size w wr∧
  Hid (o.length=Z∧DigL o∧valN o=valN (l.take t)*valN m∧∀q,t+n2<=q->digF o q=0)) (fun i _=>n-(intOf i).toNat)
 case atStart=>exact⟨0,_,Nat.zero_le _,rfl,HSP.out,HBA.out,hid ⟨by simp,fun d h=>by rw[(List.mem_replicate.1 h).2];decide,by rw[valN_rep];simp[valN],fun q _=>digF_rep _ _⟩⟩
 case round=>
  obtain⟨t,o,ht,rfl,hsp,hbk,HI⟩:=hrel
  by_cases hlt:t<n
  ·obtain⟨b,oo,rfl,hb,hc⟩:=(HH.out wr hbk) t (by rw[HN.out];exact hlt)
   have hv:l[t]?.getD 0=digF l t:=rfl
   rw[hv]at hc
   have HX:=hid (HDX.out t)
   have HTX:=hid (HTS.out t)
   obtain⟨x,hx⟩:=exq (digF l t)
   rw[<- hx]at hc HX HTX
   have i1:(t:Int)<(n:Int):=by omega
   have HSP1:=hid hsp
   have HBK1:=hid hbk
   obtain⟨wo,hwo⟩:=exq (wr)
   subst hwo
   clear hv hx hsp hbk hb HSP HBA
   go_wp2
   clear hc
   go_loopw [8,9] (fun c j wr=>∃(s:Nat) (o2:List Int) (cc:Int),s<=n2+1∧j=.int .i64 s∧c=.int .i64 cc∧0<=cc∧cc<1000000000∧zBE wr g o2∧Below w.heap.size w wr∧
    Hid (o2.length=Z∧DigL o2∧valN o2+pw (t+s)*cc=valN (l.take t)*valN m+pw t*(x*valN (m.take s))∧(n2<s->cc=0)∧∀q,(s<=n2->t+n2<=q->digF o2 q=0)∧(t+n2+1<=q->digF o2 q=0))) (fun _ j _=>n2+2-(intOf j).toNat)
   case atStart=>exact⟨0,o,0,Nat.zero_le _,rfl,rfl,by decide,by decide,HSP1.out,HBK1.out,hid ⟨HI.out.1,HI.out.2.1,by rw[HI.out.2.2.1];simp[valN],fun h=>by omega,fun q=>⟨fun _ h=>HI.out.2.2.2 q h,fun h=>HI.out.2.2.2 q (by omega)⟩⟩⟩
   case round=>
    obtain⟨s,o2,cc,hs,rfl,rfl,hc0,hc1,hsp,hbk,HJ⟩:=hrel
    by_cases hgo:s<n2∨0<cc
    ·have hsn:s<=n2:=by
      rcases hgo with h|h
      ·omega
      ·rcases Nat.lt_or_ge n2 s with c|c
       ·have:=HJ.out.2.2.2.1 c;omega
       ·exact c
     have htz:t+s<Z:=by have:=HZ.out;omega
     have hcell:=hsp.cell (j:=t+s) (by rw[HJ.out.1];exact htz)
     have hvd:o2[t+s]?.getD 0=digF o2 (t+s):=rfl
     rw[hvd]at hcell
     have hdb:=zCH HJ.out.2.1 (t+s)
     have hyb:=HDY.out s
     have hmb:=mul_dig HX.out hyb
     have hdz:s=n2->digF o2 (t+s)=0:=fun e=>(HJ.out.2.2.2.2 (t+s)).1 hsn (by omega)
     have hyz:s=n2->digF m s=0:=fun e=>by rw[e];exact HZY.out
     have HDG:=hid (fun(X:World) (hX:Below w.heap.size w X)=>HD2.out X hX s)
     have HST:=hid (fun(r q:Int) (hrq:digF o2 (t+s)+x*digF m s+cc=r+1000000000*q) (hr0:0<=r) (hr1:r<1000000000) (hqz:s=n2->q=0)=>
      show(o2.set (t+s) r).length=Z∧DigL (o2.set (t+s) r)∧valN (o2.set (t+s) r)+pw (t+(s+1))*q=valN (l.take t)*valN m+pw t*(x*valN (m.take (s+1)))∧(n2<s+1->q=0)∧∀p,(s+1<=n2->t+n2<=p->digF (o2.set (t+s) r) p=0)∧(t+n2+1<=p->digF (o2.set (t+s) r) p=0)from by
      obtain⟨j1,j2,j3,j4,j5⟩:=HJ.out
      refine⟨by simp[j1],j2.set hr0 hr1,?_,fun h=>hqz (by omega),fun p=>⟨fun h1 h2=>?_,fun h=>?_⟩⟩
      ·rw[set_val (by rw[j1];exact htz),<- Nat.add_assoc,pw,HTS2.out s]
       have e1:=pw_add t s
       generalize digF o2 (t+s)=dd at hrq⊢
       generalize digF m s=y at hrq⊢
       generalize valN o2=A at j3⊢
       generalize valN (l.take t)*valN m=B at j3⊢
       generalize valN (m.take s)=C at j3⊢
       rw[e1]at j3⊢
       generalize pw t=p1 at j3⊢
       generalize pw s=p2 at j3⊢
       have e2:cc=r+1000000000*q-dd-x*y:=by omega
       subst e2
       grind
      ·rw[zKQ (by omega)];exact(j5 p).1 (by omega) h2
      ·rw[zKQ (by omega)];exact(j5 p).2 h)
     obtain⟨d,hdd⟩:=exq (digF o2 (t+s))
     obtain⟨y,hy⟩:=exq (digF m s)
     rw[<- hdd]at hcell hdb hdz HST
     rw[<- hy]at hyb hmb hyz HST HDG
     have hj0:0<=d+x*y+cc:=by omega
     have et:(d+x*y+cc).tmod 1000000000=(d+x*y+cc)%1000000000:=Int.tmod_eq_emod_of_nonneg hj0
     have ed:(d+x*y+cc).tdiv 1000000000=(d+x*y+cc)/1000000000:=Int.tdiv_eq_ediv_of_nonneg hj0
     have hxz:s=n2->x*y=0:=fun e=>by rw[hyz e];simp
     obtain⟨xy,hxy⟩:=exq (x*y)
     rw[<- hxy]at hmb hj0 et ed HST hxz
     obtain⟨z,hz⟩:=exq (d+xy+cc)
     rw[<- hz]at hj0 et ed HST
     obtain⟨r,hr⟩:=exq (z%1000000000)
     obtain⟨q,hq⟩:=exq (z/1000000000)
     rw[<- hr]at et
     rw[<- hq]at ed
     have HNX:=hid (HST.out r q (by omega) (by omega) (by omega) (fun e=>by have:=hdz e;have:=hxz e;omega))
     have hq0:0<=q∧q<1000000000:=by omega
     have e1:IntKind.i64.wrap (x*y)=xy:=by rw[<- hxy];exact IntWalk.i64_in _ (by omega)
     have e2:IntKind.i64.wrap (d+xy)=d+xy:=IntWalk.i64_in _ (by omega)
     have e3:IntKind.i64.wrap (d+xy+cc)=z:=by rw[<- hz];exact IntWalk.i64_in _ (by omega)
     have e5:((t:Int)+(s:Int)).toNat=t+s:=by omega
     have i3:(0:Int)<=(t:Int)+(s:Int):=by omega
     have hfz:=hsp.frozen (t+s)
     have i2:(t:Int)+(s:Int)<(Z:Int):=by omega
     have HSS:=hid (fun(X:World) (hX:zBE X g o2)=>hX.set (t+s) (by rw[HJ.out.1];exact htz) r)
     have HSP2:=hid hsp
     have HBK:=hid hbk
     have hgo2:s<n2∨(¬s<n2∧0<cc):=by omega
     clear hvd hdb hyb hmb hdz hyz hxz hdd hy hxy hz hr hq hj0 HST HJ hgo htz hsp
     rcases hgo2 with g1|⟨g1,g2⟩
     all_goals
      go_wp2
      go_quiet (first| (go_at_call 140;exact Calls.quiet_of_same ((HDG.out _ (by repeat (first|exact HBK.out|refine zAV ?_ _))).mono fun _ _ h=>⟨h.1,h.2.symm⟩)))
      have hspd:=HSP2.out.keep (w':=wr.drewN nq) rfl
      have HSPD:=hid hspd
      have hcd:(wr.drewN nq).cell? ⟨g,t+s,none⟩=some (.int .i64 d):=hcell
      have hfd:(wr.drewN nq).frozen? ⟨g,t+s,none⟩=false:=hfz
      have HST2:=hid (HSS.out _ hspd)
      have HBE:=hid (zAE (zAV HBK.out nq) HG.out (t+s) (.int .i64 r))
      clear hspd hcell hfz HSS HDG HSP2 HBK
      generalize wr.drewN nq=wq at HSPD hcd hfd HST2 HBE⊢
      go_wp2
      refine⟨⟨s+1,_,q,by omega,by go_num,rfl,hq0.1,hq0.2,HST2.out,HBE.out,HNX⟩,by simp[intOf];omega⟩
    ·have g1:¬s<n2:=by omega
     have g2:¬0<cc:=by omega
     obtain rfl:cc=0:=by omega
     obtain⟨j1,j2,j3,j4,j5⟩:=HJ.out
     have HNO:=hid (show o2.length=Z∧DigL o2∧valN o2=valN (l.take (t+1))*valN m∧∀q,t+1+n2<=q->digF o2 q=0 from by
      refine⟨j1,j2,?_,fun q hq=>(j5 q).2 (by omega)⟩
      rw[HTM.out s (by omega)]at j3
      rw[HTX.out,Int.add_mul]
      have:pw t*(x*valN m)=pw t*x*valN m:=by rw[Int.mul_assoc]
      omega)
     have HSP2:=hid hsp
     have HBK:=hid hbk
     clear HJ j1 j2 j3 j4 j5 hsp hbk hgo
     go_wp2
     refine⟨⟨t+1,o2,by omega,by go_num,HSP2.out,HBK.out,HNO⟩,by simp[intOf];omega⟩
  ·obtain rfl:t=n:=by omega
   obtain⟨j1,j2,j3,j4⟩:=HI.out
   rw[HTL.out,<- HP.out]at j3
   have HT:=hid (trimmed_c wr (some ⟨g,0,none⟩) Z Z o j1 (by omega) (Nat.le_refl _) hsp.ints j2)
   rw[j3]at HT
   have HBK:=hid hbk
   clear HI j1 j2 j3 j4 hsp hbk
   go_wp2_with (go_at_call 141;refine HT.out.mono ?_;rintro e w2 ⟨v2,rfl,hv2,hb2⟩;refine Stop.of ?_)
   refine Stop.go ?_
   have HF:=hid (hv2.le hZL)
   have HB2:=hid (zAA HBK.out hb2)
   clear hv2 hb2
   go_wp2
   go_ret
   exact⟨_,rfl,HF.out,HB2.out⟩
end
section
open Go.RowKit
theorem NatV.slice{w:World}{v:Value}{L:Nat}{N:Int}(h:NatV w v L N):∃a n cap,v=.slice a n cap:=by
 obtain⟨a,n,cap,l,h1,_⟩:=h
 exact⟨a,n,cap,h1⟩
def RatQ(w:World)(v:Value)(L:Nat)(s:Bool)(N D:Int):Prop:=∃a n c b m e,v=.agg #[.bool s,.slice a n c,.slice b m e]∧NatV w (.slice a n c) L N∧NatV w (.slice b m e) L D
theorem RatQ.below{w w':World}{v:Value}{L:Nat}{s:Bool}{N D:Int}(h:RatQ w v L s N D)(hb:Below w.heap.size w w'):RatQ w' v L s N D:=by
 obtain⟨a,n,c,b,m,e,h1,h2,h3⟩:=h
 exact⟨a,n,c,b,m,e,h1,h2.below hb,h3.below hb⟩
theorem RatQ.le{w:World}{v:Value}{L K:Nat}{s:Bool}{N D:Int}(h:RatQ w v L s N D)(hk:L<=K):RatQ w v K s N D:=by
 obtain⟨a,n,c,b,m,e,h1,h2,h3⟩:=h
 exact⟨a,n,c,b,m,e,h1,h2.le hk,h3.le hk⟩
theorem NatV.keeps3{w:World}{v0:Value}{L:Nat}{N:Int}{g:Nat}{u v z:Value}(h:NatV w v0 L N)(hg:∃c,w.heap[g]? =some (.cells c 37 (0,0))∧∀x:Int,∀o:Nat,c[o]? ≠some (.int .i64 x)):NatV (((w.setCell ⟨g,0,none⟩ u).setCell ⟨g,1,none⟩ v).setCell ⟨g,2,none⟩ z) v0 L N:=by
 obtain⟨a,n,cap,l,h1,h2,h3,h4,h5⟩:=h
 refine⟨a,n,cap,l,h1,h2,h3,fun j hj=>?_,h5⟩
 obtain⟨b,o,e,hb,hc⟩:=h4 j hj
 refine⟨b,o,e,by simpa using hb,?_⟩
 have hne:b≠g:=by
  rintro rfl
  obtain⟨c,hc1,hc2⟩:=hg
  simp[World.cell?,hc1]at hc
  exact hc2 _ _ hc
 rw[World.cell?_setCell_far _ _ _ _ (fun h=>hne h.symm),World.cell?_setCell_far _ _ _ _ (fun h=>hne h.symm),World.cell?_setCell_far _ _ _ _ (fun h=>hne h.symm)]
 exact hc
def zGN(x y:Bool×Int×Int):Bool×Int×Int:=
 if x.1=y.1 then(x.1,x.2.1*y.2.2+y.2.1*x.2.2,x.2.2*y.2.2)
 else if y.2.1*x.2.2<=x.2.1*y.2.2 then(x.1,x.2.1*y.2.2-y.2.1*x.2.2,x.2.2*y.2.2)
 else(y.1,y.2.1*x.2.2-x.2.1*y.2.2,x.2.2*y.2.2)
theorem cmpI_ge{V U:Int}:(0<=cmpI V U)↔U<=V:=by unfold cmpI;split<;>(try split)<;>omega
theorem rplus_c(w:World)(v u:Value)(L K:Nat)(s t:Bool)(N D M E:Int)(h:RatQ w v L s N D)(k:RatQ w u K t M E)(hL:L<=100)(hK:K<=100):
 Calls Tryz.prog 24 #[v,u] w fun e w'=>∃x,e=.returned x∧RatQ w' x (L+K+1) (zGN (s,N,D) (t,M,E)).1 (zGN (s,N,D) (t,M,E)).2.1 (zGN (s,N,D) (t,M,E)).2.2∧Below w.heap.size w w':=by
 obtain⟨na,nn,nc,da,dn,dc,rfl,hN,hD⟩:=h
 obtain⟨ma,mn,mc,ea,en,ec,rfl,hM,hE⟩:=k
 obtain⟨s0,hs⟩:=exq (w.heap.size)
 obtain⟨wa,hwa⟩:=exq (((w.alloc (.cells #[.bool s,.slice na nn nc,.slice da dn dc] 37)).alloc (.cells #[.bool t,.slice ma mn mc,.slice ea en ec] 37)).alloc (.cells #[.bool false,.slice none 0 0,.slice none 0 0] 37))
 have hba:Below w.heap.size w wa:=by rw[hwa];exact(((Below.refl _ _).alloc (Nat.le_refl _) _).alloc (by simp) _).alloc (by simp;omega) _
 have q0:wa.heap[s0+2]? =some (.cells #[.bool false,.slice none 0 0,.slice none 0 0] 37 (0,0)):=by
  have:=World.alloc_heap_new ((w.alloc (.cells #[.bool s,.slice na nn nc,.slice da dn dc] 37)).alloc (.cells #[.bool t,.slice ma mn mc,.slice ea en ec] 37)) (.cells #[.bool false,.slice none 0 0,.slice none 0 0] 37)
  rw[hwa,hs]
  simpa using this
 have hs1:s0+2<wa.heap.size:=(Array.getElem?_eq_some_iff.1 q0).1
 have hc:∀o v,(#[Value.bool s,.slice na nn nc,.slice da dn dc]:Array Value)[o]? =some v->wa.cell? ⟨s0,o,none⟩=some v:=fun o v h=>by
  rw[hwa,hs,World.cell?_alloc_past _ _ _ (by simp;omega),World.cell?_alloc_past _ _ _ (by simp),World.cell?_alloc_at _ _ _ _ rfl];exact h
 have hc2:∀o v,(#[Value.bool t,.slice ma mn mc,.slice ea en ec]:Array Value)[o]? =some v->wa.cell? ⟨s0+1,o,none⟩=some v:=fun o v h=>by
  rw[hwa,hs,World.cell?_alloc_past _ _ _ (by simp),World.cell?_alloc_at _ _ _ _ (by simp)];exact h
 have HS:=hid (fun(Y:World) (hY:Below wa.heap.size wa Y)=>show Y.cell? ⟨s0,0,none⟩=some (.bool s)∧Y.cell? ⟨s0,1,none⟩=some (.slice na nn nc)∧Y.cell? ⟨s0,2,none⟩=some (.slice da dn dc)∧Y.cell? ⟨s0+1,0,none⟩=some (.bool t)∧Y.cell? ⟨s0+1,1,none⟩=some (.slice ma mn mc)∧Y.cell? ⟨s0+1,2,none⟩=some (.slice ea en ec)from by
  have k0:∀o,Y.cell? ⟨s0,o,none⟩=wa.cell? ⟨s0,o,none⟩:=fun o=>hY.cell (p:=⟨s0,o,none⟩) (by show s0<_;omega)
  have k1:∀o,Y.cell? ⟨s0+1,o,none⟩=wa.cell? ⟨s0+1,o,none⟩:=fun o=>hY.cell (p:=⟨s0+1,o,none⟩) (by show s0+1<_;omega)
  exact⟨(k0 0).trans (hc 0 _ rfl),(k0 1).trans (hc 1 _ rfl),(k0 2).trans (hc 2 _ rfl),(k1 0).trans (hc2 0 _ rfl),(k1 1).trans (hc2 1 _ rfl),(k1 2).trans (hc2 2 _ rfl)⟩)
 have HR:=hid (fun(Y:World) (hY:Below wa.heap.size wa Y)=>show Y.cell? ⟨s0+2,0,none⟩=some (.bool false)∧Y.cell? ⟨s0+2,1,none⟩=some (.slice none 0 0)∧Y.cell? ⟨s0+2,2,none⟩=some (.slice none 0 0)∧(∀o,Y.frozen? ⟨s0+2,o,none⟩=false)∧s0+2<Y.heap.size from by
  have h1:=(hY.block (s0+2) hs1).trans q0
  exact⟨by simp[World.cell?,h1],by simp[World.cell?,h1],by simp[World.cell?,h1],fun o=>by simp[World.frozen?,h1],(Array.getElem?_eq_some_iff.1 h1).1⟩)
 have HFIN:=hid (fun(Y:World) (hY:Below wa.heap.size wa Y) (x y z:Value)=>show Below w.heap.size w (((Y.setCell ⟨s0+2,0,none⟩ x).setCell ⟨s0+2,1,none⟩ y).setCell ⟨s0+2,2,none⟩ z)from
  zAE (zAE (zAE (zAA hba hY) (by omega) 0 x) (by omega) 1 y) (by omega) 2 z)
 have HNN:=hid (fun(Y:World) (hY:Below wa.heap.size wa Y)=>And.intro (hN.below (zAA hba hY)) (And.intro (hD.below (zAA hba hY)) (And.intro (hM.below (zAA hba hY)) (hE.below (zAA hba hY)))))
 have HNG:=hid (fun(Y:World) (hY:Below wa.heap.size wa Y)=>show ∃c,Y.heap[s0+2]? =some (.cells c 37 (0,0))∧∀x:Int,∀o:Nat,c[o]? ≠some (.int .i64 x)from
  ⟨_,(hY.block (s0+2) hs1).trans q0,fun x o=>by match o with|0=>simp|1=>simp|2=>simp|o+3=>simp⟩)
 clear hba q0 hs1 hc hc2 hN hD hM hE
 go_enter Tryz.func24,Tryz.ntmps24
 go_wp2_with fail
 rw[<- hs,<- hwa]
 clear hs hwa
 refine zAG (fun j' X=>wAll j'=true->X.cell? ⟨s0,0,none⟩=some (.bool s)∧X.cell? ⟨s0,1,none⟩=some (.slice na nn nc)∧X.cell? ⟨s0,2,none⟩=some (.slice da dn dc)∧X.cell? ⟨s0+1,0,none⟩=some (.bool t)∧X.cell? ⟨s0+1,1,none⟩=some (.slice ma mn mc)∧X.cell? ⟨s0+1,2,none⟩=some (.slice ea en ec)) (by kernel_rfl) ?_
 have hbd:Below wa.heap.size wa wa.drew:=(Below.refl _ _).drew
 generalize wa.drew=wd at hbd⊢
 refine AnyT.tD (i:=0) (v:=.pointer (some ⟨s0,1,none⟩)) rfl rfl (by rintro w' ⟨y1,y2,y3,y4,y5,y6⟩;go_simp) (HS.out _ hbd) ?_;go_frame
 refine AnyT.tD (i:=1) (v:=.slice na nn nc) rfl rfl (by rintro w' ⟨y1,y2,y3,y4,y5,y6⟩;go_simp) (HS.out _ hbd) ?_;go_frame
 refine AnyT.tD (i:=2) (v:=.pointer (some ⟨s0+1,2,none⟩)) rfl rfl (by rintro w' ⟨y1,y2,y3,y4,y5,y6⟩;go_simp) (HS.out _ hbd) ?_;go_frame
 refine AnyT.tD (i:=3) (v:=.slice ea en ec) rfl rfl (by rintro w' ⟨y1,y2,y3,y4,y5,y6⟩;go_simp) (HS.out _ hbd) ?_;go_frame
 refine AnyT.tD (i:=5) (v:=.pointer (some ⟨s0+1,1,none⟩)) rfl rfl (by rintro w' ⟨y1,y2,y3,y4,y5,y6⟩;go_simp) (HS.out _ hbd) ?_;go_frame
 refine AnyT.tD (i:=6) (v:=.slice ma mn mc) rfl rfl (by rintro w' ⟨y1,y2,y3,y4,y5,y6⟩;go_simp) (HS.out _ hbd) ?_;go_frame
 refine AnyT.tD (i:=7) (v:=.pointer (some ⟨s0,2,none⟩)) rfl rfl (by rintro w' ⟨y1,y2,y3,y4,y5,y6⟩;go_simp) (HS.out _ hbd) ?_;go_frame
 refine AnyT.tD (i:=8) (v:=.slice da dn dc) rfl rfl (by rintro w' ⟨y1,y2,y3,y4,y5,y6⟩;go_simp) (HS.out _ hbd) ?_;go_frame
 refine AnyT.tD (i:=10) (v:=.pointer (some ⟨s0,2,none⟩)) rfl rfl (by rintro w' ⟨y1,y2,y3,y4,y5,y6⟩;go_simp) (HS.out _ hbd) ?_;go_frame
 refine AnyT.tD (i:=11) (v:=.slice da dn dc) rfl rfl (by rintro w' ⟨y1,y2,y3,y4,y5,y6⟩;go_simp) (HS.out _ hbd) ?_;go_frame
 refine AnyT.tD (i:=12) (v:=.pointer (some ⟨s0+1,2,none⟩)) rfl rfl (by rintro w' ⟨y1,y2,y3,y4,y5,y6⟩;go_simp) (HS.out _ hbd) ?_;go_frame
 refine AnyT.tD (i:=13) (v:=.slice ea en ec) rfl rfl (by rintro w' ⟨y1,y2,y3,y4,y5,y6⟩;go_simp) (HS.out _ hbd) ?_;go_frame
 refine AnyT.nx (i:=4) rfl ?_
 go_wp2_with (go_at_call 75;refine(zEW _ _ _ L K _ _ (HNN.out _ hbd).1 (HNN.out _ hbd).2.2.2 (by omega) (by omega)).mono ?_;rintro e w1 ⟨vw1,rfl,hvw1,hbw1⟩;refine Stop.of ?_)
 refine Stop.go ?_
 obtain⟨aw1,nw1,cw1,rfl⟩:=hvw1.slice
 have HVw1:=hid hvw1
 have HB1:=hid (zAA hbd hbw1)
 have HBXw1:=hid hbw1
 clear hvw1 hbw1
 go_wp2
 refine⟨fun _=>HS.out _ HB1.out,?_⟩
 refine AnyT.nx (i:=9) rfl ?_
 go_wp2_with (go_at_call 75;refine(zEW _ _ _ K L _ _ (HNN.out _ HB1.out).2.2.1 (HNN.out _ HB1.out).2.1 (by omega) (by omega)).mono ?_;rintro e w2 ⟨vw2,rfl,hvw2,hbw2⟩;refine Stop.of ?_)
 refine Stop.go ?_
 obtain⟨aw2,nw2,cw2,rfl⟩:=hvw2.slice
 have HVw2:=hid hvw2
 have HB2:=hid (zAA HB1.out hbw2)
 have HBXw2:=hid hbw2
 clear hvw2 hbw2
 go_wp2
 refine⟨fun _=>HS.out _ HB2.out,?_⟩
 refine AnyT.nx (i:=14) rfl ?_
 go_wp2_with (go_at_call 75;refine(zEW _ _ _ L K _ _ (HNN.out _ HB2.out).2.1 (HNN.out _ HB2.out).2.2.2 (by omega) (by omega)).mono ?_;rintro e w3 ⟨vw3,rfl,hvw3,hbw3⟩;refine Stop.of ?_)
 refine Stop.go ?_
 obtain⟨aw3,nw3,cw3,rfl⟩:=hvw3.slice
 have HVw3:=hid hvw3
 have HB3:=hid (zAA HB2.out hbw3)
 have HBXw3:=hid hbw3
 clear hvw3 hbw3
 go_wp2
 refine⟨fun _=>HS.out _ HB3.out,?_⟩
 refine AnyT.tD (i:=15) (v:=.slice aw1 nw1 cw1) rfl rfl (by rintro w' ⟨y1,y2,y3,y4,y5,y6⟩;go_simp) (HS.out _ HB3.out) ?_;go_frame
 refine AnyT.tD (i:=16) (v:=.slice aw2 nw2 cw2) rfl rfl (by rintro w' ⟨y1,y2,y3,y4,y5,y6⟩;go_simp) (HS.out _ HB3.out) ?_;go_frame
 refine AnyT.tD (i:=17) (v:=.slice aw3 nw3 cw3) rfl rfl (by rintro w' ⟨y1,y2,y3,y4,y5,y6⟩;go_simp) (HS.out _ HB3.out) ?_;go_frame
 refine AnyT.done (by kernel_rfl) ?_ _
 have HNE:=hid ((HVw1.out.below HBXw2.out).below HBXw3.out)
 have HMD:=hid (((HVw2.out.below HBXw3.out)).le (show K+L<=L+K by omega))
 have HDE:=hid HVw3.out
 obtain⟨y1,y2,y3,y4,y5,y6⟩:=HS.out _ HB3.out
 clear HVw1 HVw2 HVw3 HBXw2 HBXw1 HBXw3 HB1 HB2 hbd
 have HB:=hid HB3.out
 clear HB3 y1 y2 y3 y4 y5 y6
 by_cases hst:s=t
 ·subst hst
  have HQ:=hid (show zGN (s,N,D) (s,M,E)=(s,N*E+M*D,D*E)from if_pos rfl)
  have hsb:(s==s)=true:=by simp
  obtain⟨y1,y2,y3,y4,y5,y6⟩:=HS.out _ HB.out
  go_wp2
  refine zAG (fun j' X=>decide (j'<=6)=true->X.cell? ⟨s0,0,none⟩=some (.bool s)) (by kernel_rfl) ?_
  obtain⟨wq,hwq⟩:=exq (w3.drew)
  have hbq:Below wa.heap.size wa wq:=by rw[hwq];exact HB.out.drew
  have hb0:Below w3.heap.size w3 wq:=by rw[hwq];exact(Below.refl _ _).drew
  rw[<- hwq]
  clear hwq
  refine AnyT.tD (i:=0) (v:=.pointer (some ⟨s0,0,none⟩)) rfl rfl (by rintro w' y1;go_simp) ((HS.out _ hbq).1) ?_;go_frame
  refine AnyT.tD (i:=1) (v:=.bool s) rfl rfl (by rintro w' y1;go_simp) ((HS.out _ hbq).1) ?_;go_frame
  refine AnyT.tD (i:=2) (v:=.slice aw1 nw1 cw1) rfl rfl (by rintro w' y1;go_simp) ((HS.out _ hbq).1) ?_;go_frame
  refine AnyT.tD (i:=3) (v:=.slice aw2 nw2 cw2) rfl rfl (by rintro w' y1;go_simp) ((HS.out _ hbq).1) ?_;go_frame
  refine AnyT.tD (i:=5) (v:=.slice aw3 nw3 cw3) rfl rfl (by rintro w' y1;go_simp) ((HS.out _ hbq).1) ?_;go_frame
  refine AnyT.nx (i:=4) rfl ?_
  go_wp2_with (go_at_call 76;refine(plus_c _ _ _ (L+K) (L+K) _ _ (HNE.out.below hb0) (HMD.out.below hb0) (by omega) (by omega)).mono ?_;rintro e w5 ⟨v5,rfl,hv5,hb5⟩;refine Stop.of ?_)
  refine Stop.go ?_
  obtain⟨a5,n5,c5,rfl⟩:=hv5.slice
  have HV5:=hid hv5
  have HB5:=hid (zAA hbq hb5)
  have HDE5:=hid ((HDE.out.below hb0).below hb5)
  obtain⟨x0,x1,x2,hfz,hlt⟩:=HR.out _ HB5.out
  have f0:=hfz 0
  have f1:=hfz 1
  have f2:=hfz 2
  have HFI:=hid (HFIN.out _ HB5.out (.bool s) (.slice a5 n5 c5) (.slice aw3 nw3 cw3))
  have HKN:=hid (hv5.keeps3 (g:=s0+2) (u:=.bool s) (v:=.slice a5 n5 c5) (z:=.slice aw3 nw3 cw3) (HNG.out _ HB5.out))
  have HKD:=hid (HDE5.out.keeps3 (g:=s0+2) (u:=.bool s) (v:=.slice a5 n5 c5) (z:=.slice aw3 nw3 cw3) (HNG.out _ HB5.out))
  clear hv5 hb5 hfz hb0
  go_wp2
  refine⟨fun _=>(HS.out _ HB5.out).1,?_⟩
  refine AnyT.tD (i:=6) (v:=.agg #[.bool s,.slice a5 n5 c5,.slice aw3 nw3 cw3]) rfl rfl (by rintro w' y1;go_simp) ((HS.out _ HB5.out).1) ?_;go_frame
  refine AnyT.nx (i:=7) rfl ?_
  go_wp2
  refine⟨fun h=>absurd h (by decide),?_⟩
  refine AnyT.done (by kernel_rfl) ?_ _
  go_wp2
  refine bodyPost_ret (v:=.agg #[.bool s,.slice a5 n5 c5,.slice aw3 nw3 cw3]) ?_ rfl ⟨_,rfl,?_,HFI.out⟩
  ·simp[results,Tryz.results24,go_sem,x0,x1,x2,f0,f1,f2,hlt]
  ·rw[HQ.out];exact⟨_,_,_,_,_,_,rfl,HKN.out.le (by omega),HKD.out.le (by omega)⟩
 ·have hsb:(s==t)=false:=by simpa using hst
  have HOR:=hid (order_c w3 _ _ (L+K) (L+K) _ _ HNE.out HMD.out (by omega) (by omega))
  obtain⟨y1,y2,y3,y4,y5,y6⟩:=HS.out _ HB.out
  obtain⟨cv,hcv⟩:=exq (cmpI (N*E) (M*D))
  rw[<- hcv]at HOR
  have hge:0<=cv↔M*D<=N*E:=by rw[hcv];exact cmpI_ge
  have HGE:=hid hge
  have HST:=hid hst
  clear hcv hge hst
  go_wp2_with (go_at_call 77;refine HOR.out.mono ?_;rintro e w4 ⟨rfl,hb4⟩;refine Stop.of ?_)
  refine Stop.go ?_
  have HNE4:=hid (HNE.out.below hb4)
  have HMD4:=hid (HMD.out.below hb4)
  have HDE4:=hid (HDE.out.below hb4)
  have HB4:=hid (zAA HB.out hb4)
  clear HNE HMD HDE HB HOR hb4
  have HB:=HB4
  have HDE:=HDE4
  clear HB4 HDE4
  obtain⟨y1,y2,y3,y4,y5,y6⟩:=HS.out _ HB.out
  by_cases hcc:0<=cv
  ·have hle:=HGE.out.1 hcc
   have HQ:=hid (show zGN (s,N,D) (t,M,E)=(s,N*E-M*D,D*E)from by unfold zGN;rw[if_neg HST.out,if_pos hle])
   have HLE:=hid hle
   clear hle
   go_wp2
   refine zAG (fun j' X=>decide (j'<=6)=true->X.cell? ⟨s0,0,none⟩=some (.bool s)) (by kernel_rfl) ?_
   obtain⟨wq,hwq⟩:=exq (w4.drew)
   have hbq:Below wa.heap.size wa wq:=by rw[hwq];exact HB.out.drew
   have hb0:Below w4.heap.size w4 wq:=by rw[hwq];exact(Below.refl _ _).drew
   rw[<- hwq]
   clear hwq
   refine AnyT.tD (i:=0) (v:=.pointer (some ⟨s0,0,none⟩)) rfl rfl (by rintro w' y1;go_simp) ((HS.out _ hbq).1) ?_;go_frame
   refine AnyT.tD (i:=1) (v:=.bool s) rfl rfl (by rintro w' y1;go_simp) ((HS.out _ hbq).1) ?_;go_frame
   refine AnyT.tD (i:=2) (v:=.slice aw1 nw1 cw1) rfl rfl (by rintro w' y1;go_simp) ((HS.out _ hbq).1) ?_;go_frame
   refine AnyT.tD (i:=3) (v:=.slice aw2 nw2 cw2) rfl rfl (by rintro w' y1;go_simp) ((HS.out _ hbq).1) ?_;go_frame
   refine AnyT.tD (i:=5) (v:=.slice aw3 nw3 cw3) rfl rfl (by rintro w' y1;go_simp) ((HS.out _ hbq).1) ?_;go_frame
   refine AnyT.nx (i:=4) rfl ?_
   go_wp2_with (go_at_call 78;refine(minus_c _ _ _ (L+K) (L+K) _ _ (HNE4.out.below hb0) (HMD4.out.below hb0) (by omega) (by omega) HLE.out).mono ?_;rintro e w5 ⟨v5,rfl,hv5,hb5⟩;refine Stop.of ?_)
   refine Stop.go ?_
   obtain⟨a5,n5,c5,rfl⟩:=hv5.slice
   have HV5:=hid hv5
   have HB5:=hid (zAA hbq hb5)
   have HDE5:=hid ((HDE.out.below hb0).below hb5)
   obtain⟨x0,x1,x2,hfz,hlt⟩:=HR.out _ HB5.out
   have f0:=hfz 0
   have f1:=hfz 1
   have f2:=hfz 2
   have HFI:=hid (HFIN.out _ HB5.out (.bool s) (.slice a5 n5 c5) (.slice aw3 nw3 cw3))
   have HKN:=hid (hv5.keeps3 (g:=s0+2) (u:=.bool s) (v:=.slice a5 n5 c5) (z:=.slice aw3 nw3 cw3) (HNG.out _ HB5.out))
   have HKD:=hid (HDE5.out.keeps3 (g:=s0+2) (u:=.bool s) (v:=.slice a5 n5 c5) (z:=.slice aw3 nw3 cw3) (HNG.out _ HB5.out))
   clear hv5 hb5 hfz hb0
   go_wp2
   refine⟨fun _=>(HS.out _ HB5.out).1,?_⟩
   refine AnyT.tD (i:=6) (v:=.agg #[.bool s,.slice a5 n5 c5,.slice aw3 nw3 cw3]) rfl rfl (by rintro w' y1;go_simp) ((HS.out _ HB5.out).1) ?_;go_frame
   refine AnyT.nx (i:=7) rfl ?_
   go_wp2
   refine⟨fun h=>absurd h (by decide),?_⟩
   refine AnyT.done (by kernel_rfl) ?_ _
   go_wp2
   refine bodyPost_ret (v:=.agg #[.bool s,.slice a5 n5 c5,.slice aw3 nw3 cw3]) ?_ rfl ⟨_,rfl,?_,HFI.out⟩
   ·simp[results,Tryz.results24,go_sem,x0,x1,x2,f0,f1,f2,hlt]
   ·rw[HQ.out];exact⟨_,_,_,_,_,_,rfl,HKN.out.le (by omega),HKD.out.le (by omega)⟩
  ·have hle:¬M*D<=N*E:=fun h=>hcc (HGE.out.2 h)
   have HQ:=hid (show zGN (s,N,D) (t,M,E)=(t,M*D-N*E,D*E)from by unfold zGN;rw[if_neg HST.out,if_neg hle])
   have HLE:=hid hle
   clear hle
   go_wp2
   refine zAG (fun j' X=>decide (j'<=6)=true->X.cell? ⟨s0+1,0,none⟩=some (.bool t)) (by kernel_rfl) ?_
   obtain⟨wq,hwq⟩:=exq (w4.drew)
   have hbq:Below wa.heap.size wa wq:=by rw[hwq];exact HB.out.drew
   have hb0:Below w4.heap.size w4 wq:=by rw[hwq];exact(Below.refl _ _).drew
   rw[<- hwq]
   clear hwq
   refine AnyT.tD (i:=0) (v:=.pointer (some ⟨s0+1,0,none⟩)) rfl rfl (by rintro w' y1;go_simp) ((HS.out _ hbq).2.2.2.1) ?_;go_frame
   refine AnyT.tD (i:=1) (v:=.bool t) rfl rfl (by rintro w' y1;go_simp) ((HS.out _ hbq).2.2.2.1) ?_;go_frame
   refine AnyT.tD (i:=2) (v:=.slice aw2 nw2 cw2) rfl rfl (by rintro w' y1;go_simp) ((HS.out _ hbq).2.2.2.1) ?_;go_frame
   refine AnyT.tD (i:=3) (v:=.slice aw1 nw1 cw1) rfl rfl (by rintro w' y1;go_simp) ((HS.out _ hbq).2.2.2.1) ?_;go_frame
   refine AnyT.tD (i:=5) (v:=.slice aw3 nw3 cw3) rfl rfl (by rintro w' y1;go_simp) ((HS.out _ hbq).2.2.2.1) ?_;go_frame
   refine AnyT.nx (i:=4) rfl ?_
   go_wp2_with (go_at_call 78;refine(minus_c _ _ _ (L+K) (L+K) _ _ (HMD4.out.below hb0) (HNE4.out.below hb0) (by omega) (by omega) (by have:=HLE.out;omega)).mono ?_;rintro e w5 ⟨v5,rfl,hv5,hb5⟩;refine Stop.of ?_)
   refine Stop.go ?_
   obtain⟨a5,n5,c5,rfl⟩:=hv5.slice
   have HV5:=hid hv5
   have HB5:=hid (zAA hbq hb5)
   have HDE5:=hid ((HDE.out.below hb0).below hb5)
   obtain⟨x0,x1,x2,hfz,hlt⟩:=HR.out _ HB5.out
   have f0:=hfz 0
   have f1:=hfz 1
   have f2:=hfz 2
   have HFI:=hid (HFIN.out _ HB5.out (.bool t) (.slice a5 n5 c5) (.slice aw3 nw3 cw3))
   have HKN:=hid (hv5.keeps3 (g:=s0+2) (u:=.bool t) (v:=.slice a5 n5 c5) (z:=.slice aw3 nw3 cw3) (HNG.out _ HB5.out))
   have HKD:=hid (HDE5.out.keeps3 (g:=s0+2) (u:=.bool t) (v:=.slice a5 n5 c5) (z:=.slice aw3 nw3 cw3) (HNG.out _ HB5.out))
   clear hv5 hb5 hfz hb0
   go_wp2
   refine⟨fun _=>(HS.out _ HB5.out).2.2.2.1,?_⟩
   refine AnyT.tD (i:=6) (v:=.agg #[.bool t,.slice a5 n5 c5,.slice aw3 nw3 cw3]) rfl rfl (by rintro w' y1;go_simp) ((HS.out _ HB5.out).2.2.2.1) ?_;go_frame
   refine AnyT.nx (i:=7) rfl ?_
   go_wp2
   refine⟨fun h=>absurd h (by decide),?_⟩
   refine AnyT.done (by kernel_rfl) ?_ _
   go_wp2
   refine bodyPost_ret (v:=.agg #[.bool t,.slice a5 n5 c5,.slice aw3 nw3 cw3]) ?_ rfl ⟨_,rfl,?_,HFI.out⟩
   ·simp[results,Tryz.results24,go_sem,x0,x1,x2,f0,f1,f2,hlt]
   ·rw[HQ.out];exact⟨_,_,_,_,_,_,rfl,HKN.out.le (by omega),HKD.out.le (by omega)⟩
end
section
def sumP(v:Nat->Int)(x:List Rt):Nat->Int×Int
 |0=>(0,1)
 |k+1=>((sumP v x k).1*(zAD x k).2+(sumP v x k).2*((zAD x k).1*v k),(sumP v x k).2*(zAD x k).2)
theorem sumP_bnd{v:Nat->Int}{x:List Rt}(h1:∀k,(v k).natAbs<=1000000)(hx:ValB x):
 ∀k:Nat,(sumP v x k).1.natAbs<=k*10000000000000000*400 ^ k∧1<=(sumP v x k).2∧(sumP v x k).2.natAbs<=400 ^ k
 |0=>by simp[sumP]
 |k+1=>by
  obtain⟨i1,i2,i3⟩:=sumP_bnd h1 hx k
  obtain⟨x1,x2,x3,x4⟩:=hx k
  have hv:=h1 k
  have hp:400 ^ (k+1)=400 ^ k*400:=Nat.pow_succ ..
  have hmono:400 ^ k<=400 ^ (k+1):=by rw[hp];omega
  rw[sumP]
  simp only[]
  generalize sumP v x k=s at i1 i2 i3
  generalize zAD x k=q at x1 x2 x3 x4
  generalize v k=u at hv
  obtain⟨s1,s2⟩:=s
  obtain⟨q1,q2⟩:=q
  simp only[]at*
  obtain⟨p,hpp⟩:=exq (400 ^ k)
  have hP:400 ^ (k+1)=p*400:=by rw[hpp];exact hp
  rw[<- hpp]at i1 i3
  rw[hP]
  clear hp hmono hP hpp
  obtain⟨T,hT⟩:=exq (k*p)
  have i1':s1.natAbs<=T*10000000000000000:=by rw[hT,<- Nat.mul_right_comm];exact i1
  have g1:(k+1)*10000000000000000*(p*400)=(T*400+p*400)*10000000000000000:=by
   rw[Nat.mul_right_comm,Nat.add_mul k 1,Nat.one_mul,<- Nat.mul_assoc k p 400,<- hT]
  rw[g1]
  clear i1 g1
  have e1:(s1*q2).natAbs<=T*10000000000000000*400:=by
   rw[Int.natAbs_mul];exact Nat.mul_le_mul i1' (by omega)
  have e2:(s2*(q1*u)).natAbs<=p*10000000000000000:=by
   rw[Int.natAbs_mul]
   refine Nat.mul_le_mul i3 ?_
   rw[Int.natAbs_mul]
   exact Nat.le_trans (Nat.mul_le_mul (show q1.natAbs<=10000000000 by omega) hv) (by decide)
  have e3:(s1*q2+s2*(q1*u)).natAbs<=(s1*q2).natAbs+(s2*(q1*u)).natAbs:=Int.natAbs_add_le _ _
  refine⟨by omega,?_,?_⟩
  ·have:=Int.mul_pos (show 0<s2 by omega) (show 0<q2 by omega);omega
  ·rw[Int.natAbs_mul];exact Nat.mul_le_mul i3 (by omega)
theorem sumP_bnd6{v:Nat->Int}{x:List Rt}(h1:∀k,(v k).natAbs<=1000000)(hx:ValB x){k:Nat}(h6:k<=6):
 (sumP v x k).1.natAbs<=245760000000000000000000000000000∧1<=(sumP v x k).2∧(sumP v x k).2.natAbs<=4096000000000000:=by
 obtain⟨i1,i2,i3⟩:=sumP_bnd h1 hx k
 have hp:400 ^ k<=400 ^ 6:=Nat.pow_le_pow_right (by omega) h6
 have e:(400:Nat) ^ 6=4096000000000000:=by decide
 rw[e]at hp
 refine⟨?_,i2,Nat.le_trans i3 hp⟩
 have:k*10000000000000000*400 ^ k<=6*10000000000000000*4096000000000000:=Nat.mul_le_mul (Nat.mul_le_mul_right _ h6) hp
 omega
def colP(M:Mask)(q:Nat)(i:Nat):Int:=vec (M[i]?.getD []) q
def zHD(M:Mask)(x:List Rt)(q:Nat):Bool:=decide ((sumP (colP M q) x M.length).1<=(sumP (colP M q) x M.length).2∧ -(sumP (colP M q) x M.length).2<=(sumP (colP M q) x M.length).1)
def zJD(M:Mask)(x:List Rt):Bool:=(List.range (zAL M)).all fun q=>zHD M x q
theorem seesB_iff{M:Mask}{x:List Rt}:zJD M x=true↔∀q,q<zAL M->zHD M x q=true:=by
 unfold zJD;rw[List.all_eq_true];simp
end
section
theorem eq_floor{n d m e:Int}(hd:0<d)(he:0<e)(h:n*e=m*d):n/d=m/e:=by
 have h1:n/d=(n*e)/(d*e):=(Int.mul_ediv_mul_of_pos_left n d he).symm
 have h2:m/e=(m*d)/(e*d):=(Int.mul_ediv_mul_of_pos_left m e hd).symm
 rw[h1,h2,h,Int.mul_comm d e]
theorem eq_rest{n d m e:Int}(h:n/d=m/e):n*e=m*d↔d*(m%e)=e*(n%d):=by
 have h1:=Int.emod_add_mul_ediv n d
 have h2:=Int.emod_add_mul_ediv m e
 obtain⟨q,hq⟩:=exq (n/d)
 obtain⟨a,ha⟩:=exq (n%d)
 obtain⟨b,hb⟩:=exq (m%e)
 rw[<- h,<- hq,<- hb]at h2
 rw[<- hq,<- ha]at h1
 rw[<- ha,<- hb,<- h1,<- h2]
 constructor<;>intro h<;>grind
structure EqS (A:Prop) (n d m e:Int):Prop where
 n0:0<=n
 d0:0<=d
 m0:0<=m
 e0:0<=e
 nd:d=0->0<n
 me:e=0->0<m
 iff:A↔n*e=m*d
theorem EqS.step{A:Prop}{n d m e:Int}(h:EqS A n d m e)(hd:0<d)(he:0<e)(hq:n/d=m/e):EqS A d (n%d) e (m%e):=by
 have h1:=Int.emod_nonneg n (show d≠0 by omega)
 have h2:=Int.emod_nonneg m (show e≠0 by omega)
 exact⟨by omega,h1,by omega,h2,fun _=>hd,fun _=>he,h.iff.trans (eq_rest hq)⟩
theorem EqS.part{A:Prop}{n d m e:Int}(h:EqS A n d m e)(hd:0<d)(he:0<e)(hq:n/d≠m/e):¬A:=fun ha=>hq (eq_floor hd he (h.iff.1 ha))
theorem EqS.done{A:Prop}{n d m e:Int}(h:EqS A n d m e)(hz:d=0∨e=0):A↔d=e:=by
 rw[h.iff]
 rcases hz with rfl|rfl
 ·have:=h.nd rfl
  constructor
  ·intro hh
   have hh2:n*e=0:=by rw[hh];simp
   rcases Int.mul_eq_zero.1 hh2 with h3|h3
   ·omega
   ·exact h3.symm
  ·rintro rfl;simp
 ·have:=h.me rfl
  constructor
  ·intro hh
   have hh2:m*d=0:=by rw[<- hh];simp
   rcases Int.mul_eq_zero.1 hh2 with h3|h3
   ·omega
   ·exact h3
  ·rintro rfl;simp
end
end Go.Proofs.YtlffndehhhpgjaaGreat
