/- Walks and plain laws for DualBrightRow, part 14. -/
import Derived.Laws.CopyOwn
import Derived.Test.YtlffndehhhpgjaaGreatPkDualBrightRow13
namespace Go.Proofs.YtlffndehhhpgjaaGreat
set_option linter.unusedVariables false
set_option linter.unusedSimpArgs false
set_option maxRecDepth 100000
set_option maxHeartbeats 4000000
open _root_.List renaming getElem?_eq_getElem → yAA, take_succ_eq_append_getElem → yAI, take_of_length_le → yAL, length_append → yAN, getElem?_append_left → yAO, getElem?_append_right → yAQ, all_eq_true → yAT, length_take → yAU, getElem?_eq_none → yAY, length_cons → yBB, append_nil → yBC, drop_eq_getElem_cons → yBD, getElem_cons_zero → yBG, getElem_append_right → yBL, mem_of_getElem? → yBM, getElem_append_left → yBO, range_succ → yBQ, getElem?_eq_some_iff → yBX, append_assoc → yBZ, ext_getElem → yCC, length_nil → yCD, getElem?_set_ne → yCI, getElem?_take_of_lt → yCN, foldl_append → yCO, mem_append → yCU, take_append_drop → yCY, length_drop → yDF, cons_append → yDG, nil_append → yDL, replicate_succ → yEE, length_replicate → yEJ, eq_nil_of_length_eq_zero → yEN, mem_of_mem_take → yEP, dropLast_concat_getLast → yEQ, mem_or_eq_of_mem_set → yFA, replicate_zero → yGI, set_eq_take_append_cons_drop → yGR
open _root_.Nat renaming le_refl → yAC, le_trans → yAF, lt_of_lt_of_le → yAJ, zero_le → yAK, lt_or_ge → yAP, mul_le_mul → yAV, zero_add → yAW, one_pos → yBH, eq_zero_or_pos → yBR, sub_self → yCF, pow_le_pow_right → yCG, add_zero → yDS, min_eq_left → yEI, add_sub_cancel → yEY, mul_le_mul_right → yFB, exists_eq_add_of_le → yGP
open _root_.Int renaming natAbs_mul → yAR, mul_le_mul_of_nonneg_right → yAX, lt_or_le → yBK, mul_pos → yBN, lt_trichotomy → yBS, mul_comm → yBV, mul_nonneg → yBY, mul_le_mul_of_nonneg_left → yCJ, le_refl → yDE, mul_eq_zero → yDW, emod_nonneg → yDX, toNat_natCast → yEG, mul_assoc → yER, emod_add_mul_ediv → yEZ, tmod_eq_emod_of_nonneg → yFY, tdiv_eq_ediv_of_nonneg → yFZ
open _root_.Array renaming getElem?_eq_some_iff → yAB, toList_inj → yEO
open _root_.Option renaming getD_some → yBA
section
def pw:Nat->Int
 |0=>1
 |k+1=>1000000000*pw k
theorem zLM:∀k,0<pw k
 |0=>by decide
 |k+1=>by have:=zLM k;rw[pw];omega
theorem pw_add(a:Nat):∀b,pw (a+b)=pw a*pw b
 |0=>by rw[yDS,pw];simp
 |b+1=>by rw[<- Nat.add_assoc,pw,pw,pw_add a b];grind
theorem pw_mono{a b:Nat}(h:a<=b):pw a<=pw b:=by
 obtain⟨c,rfl⟩:=yGP h
 rw[pw_add]
 have h1:=zLM a
 have h2:=zLM c
 have:pw a*1<=pw a*pw c:=yCJ (by omega) (by omega)
 omega
def valN:List Int->Int
 | []=>0
 |d::l=>d+1000000000*valN l
theorem zQM(l m:List Int):valN (l++m)=valN l+pw l.length*valN m:=by
 induction l with
 |nil=>simp[valN,pw]
 |cons d l ih=>rw[yDG,valN,valN,ih,yBB,pw];grind
theorem zFY(l:List Int)(d:Int):valN (l++[d])=valN l+pw l.length*d:=by
 rw[zQM,valN,valN];simp
def DigL(l:List Int):Prop:=∀d∈l,0<=d∧d<1000000000
theorem DigL.nil:DigL []:=fun d h=>by cases h
theorem DigL.snoc{l:List Int}{d:Int}(h:DigL l)(h0:0<=d)(h1:d<1000000000):DigL (l++[d]):=fun x hx=>by
 rcases yCU.1 hx with hx|hx
 ·exact h x hx
 ·simp at hx;subst hx;exact⟨h0,h1⟩
theorem DigL.take{l:List Int}(h:DigL l)(k:Nat):DigL (l.take k):=fun x hx=>h x (yEP hx)
theorem DigL.bnd:∀{l:List Int},DigL l->0<=valN l∧valN l<pw l.length
 | [],_=>by simp[valN,pw]
 |d::l,h=>by
  have h1:=h d (by simp)
  have h2:=DigL.bnd (l:=l) fun x hx=>h x (by simp[hx])
  rw[valN,yBB,pw]
  omega
def zGT(l:List Int):Prop:=l.getLast? ≠some 0
theorem zGT.nil:zGT []:=by simp[zGT]
theorem zGT.low{l:List Int}(hd:DigL l)(ht:zGT l)(h0:0<l.length):pw (l.length-1)<=valN l:=by
 obtain⟨m,d,rfl⟩:∃m d,l=m++[d]:=⟨l.dropLast,l.getLast (by intro e;subst e;simp at h0),(yEQ _).symm⟩
 have hd0:d≠0:=fun e=>ht (by rw[e];simp)
 have h1:=hd d (by simp)
 have h2:=DigL.bnd (l:=m) fun x hx=>hd x (by simp[hx])
 rw[zFY,yAN]
 simp only[yBB,yCD,yAW,yEY]
 have h3:=zLM m.length
 have:pw m.length*1<=pw m.length*d:=yCJ (by omega) (by omega)
 omega
theorem zGT.of_low{l:List Int}(hd:DigL l)(h:0<l.length->pw (l.length-1)<=valN l):zGT l:=by
 intro he
 obtain⟨m,rfl⟩:=List.getLast?_eq_some_iff.1 he
 have h1:=h (by simp)
 rw[zFY,yAN]at h1
 have h2:=DigL.bnd (l:=m) fun x hx=>hd x (by simp[hx])
 simp only[yBB,yCD,yAW,yEY]at h1
 omega
theorem zMP{l:List Int}(hd:DigL l)(ht:zGT l):valN l=0↔l.length=0:=by
 constructor
 ·intro h
  rcases yBR l.length with h0|h0
  ·exact h0
  ·have:=ht.low hd h0
   have:=zLM (l.length-1)
   omega
 ·intro h
  have:=yEN h
  subst this;rfl
theorem trim_lt{l m:List Int}(hl:DigL l)(hm:DigL m)(ht:zGT m)(h:l.length<m.length):valN l<valN m:=by
 have h1:=hl.bnd
 have h2:=ht.low hm (by omega)
 have h3:=pw_mono (show l.length<=m.length-1 by omega)
 omega
theorem trim_le{l m:List Int}(hl:DigL l)(hm:DigL m)(ht:zGT l)(h:valN l<=valN m):l.length<=m.length:=by
 rcases yAP m.length l.length with c|c
 ·have:=trim_lt hm hl ht c;omega
 ·exact c
def digF(l:List Int)(i:Nat):Int:=l[i]?.getD 0
theorem zEX{l:List Int}(h:DigL l)(i:Nat):0<=digF l i∧digF l i<1000000000:=by
 unfold digF
 cases e:l[i]? with
 |none=>decide
 |some d=>exact h d (yBM e)
theorem zER(l:List Int)(k:Nat):valN (l.take (k+1))=valN (l.take k)+pw k*digF l k:=by
 rcases yAP k l.length with h|h
 ·rw[yAI h,zFY,yAU,yEI (by omega)]
  unfold digF;rw[yAA h];rfl
 ·rw[yAL (by omega),yAL h]
  unfold digF;rw[yAY h];simp
theorem zES{l:List Int}{k:Nat}(h:l.length<=k):valN (l.take k)=valN l:=by rw[yAL h]
theorem zRL(l:List Int)(k:Nat):valN l=valN (l.take k)+pw k*valN (l.drop k):=by
 rcases yAP k l.length with h|h
 ·conv=>lhs;rw[<- yCY k l]
  rw[zQM,yAU,yEI (by omega)]
 ·rw[yAL h,List.drop_of_length_le h];simp[valN]
theorem set_val{l:List Int}{k:Nat}(h:k<l.length)(d:Int):valN (l.set k d)=valN l+pw k*(d-digF l k):=by
 have e:l.set k d=l.take k++d::l.drop (k+1):=by
  rw[yGR,if_pos h]
 have e2:valN l=valN (l.take k)+pw k*(digF l k+1000000000*valN (l.drop (k+1))):=by
  rw[zRL l k,yBD h,valN]
  unfold digF;rw[yAA h];rfl
 rw[e,zQM,valN,yAU,yEI (by omega),e2]
 grind
theorem DigL.set{l:List Int}(h:DigL l){k:Nat}{d:Int}(h0:0<=d)(h1:d<1000000000):DigL (l.set k d):=fun x hx=>by
 rcases yFA hx with h2|h2
 ·exact h x h2
 ·subst h2;exact⟨h0,h1⟩
theorem top_lt{l m:List Int}(hl:DigL l)(hm:DigL m){k:Nat}(he:∀i,k<i->digF l i=digF m i)(hlen:l.length=m.length)(h:digF l k<digF m k)(hk:k<l.length):valN l<valN m:=by
 have hdrop:l.drop (k+1)=m.drop (k+1):=by
  refine yCC (by simp[hlen]) fun i h1 h2=>?_
  rw[yDF]at h1 h2
  have:=he (k+1+i) (by omega)
  unfold digF at this
  rw[yAA (by omega),yAA (by omega)]at this
  simpa using this
 have e1:=zRL l (k+1)
 have e2:=zRL m (k+1)
 rw[zER,hdrop]at e1
 rw[zER]at e2
 have b1:=(hl.take k).bnd
 have b2:=(hm.take k).bnd
 rw[yAU,yEI (by omega)]at b1
 have h3:=zLM k
 have:pw k*(digF l k+1)<=pw k*digF m k:=yCJ (by omega) (by omega)
 rw[Int.mul_add]at this
 omega
end
section
open Go.RowKit
def NatV(w:World)(v:Value)(L:Nat)(N:Int):Prop:=∃a n cap,∃l:List Int,v=.slice a n cap∧l.length=n∧n<=L∧zAH w a l∧DigL l∧zGT l∧valN l=N
theorem NatV.below{w w':World}{v:Value}{L:Nat}{N:Int}(h:NatV w v L N)(hb:Below w.heap.size w w'):NatV w' v L N:=by
 obtain⟨a,n,cap,l,h1,h2,h3,h4,h5⟩:=h
 exact⟨a,n,cap,l,h1,h2,h3,h4.below hb,h5⟩
theorem NatV.le{w:World}{v:Value}{L K:Nat}{N:Int}(h:NatV w v L N)(hk:L<=K):NatV w v K N:=by
 obtain⟨a,n,cap,l,h1,h2,h3,h4⟩:=h
 exact⟨a,n,cap,l,h1,h2,by omega,h4⟩
theorem NatV.nonneg{w:World}{v:Value}{L:Nat}{N:Int}(h:NatV w v L N):0<=N:=by
 obtain⟨a,n,cap,l,h1,h2,h3,h4,h5,h6,h7⟩:=h
 rw[<- h7];exact h5.bnd.1
theorem zRN(w:World)(a:Option Addr)(n cap:Nat)(l:List Int)(hn:l.length=n)(hm:n<=1000)(H:zAH w a l)(i:Nat):
 Calls Tryz.prog 140 #[.slice a n cap,.int .i64 i] w fun e w'=>e=.returned (.int .i64 (digF l i))∧w=w':=by
 by_cases h:i<n
 ·obtain⟨b,o,rfl,hb,hc⟩:=H i (by omega)
  have hv:l[i]?.getD 0=digF l i:=rfl
  rw[hv]at hc
  have i1:(i:Int)<(n:Int):=by omega
  obtain⟨d,hd⟩:=exq (digF l i)
  rw[<- hd]at hc⊢
  clear H hn hv hd
  go_enter Tryz.func140,Tryz.ntmps140
  go_wp2
  go_ret
  exact⟨rfl,rfl⟩
 ·have i1:¬(i:Int)<(n:Int):=by omega
  have hd:digF l i=0:=by unfold digF;rw[yAY (by omega)];rfl
  rw[hd]
  clear H hn hd
  go_enter Tryz.func140,Tryz.ntmps140
  go_wp2
  go_ret
  exact⟨rfl,rfl⟩
theorem li_nat:(Tryz.prog.info? 3).map (fun i=>(i.zero,i.size,i.bytes))=some (some (.int .i64 0),1,8):=by kernel_rfl
theorem natOf_c(w:World)(n:Int)(h0:0<=n)(h1:n<=9223372036854775807):
 Calls Tryz.prog 74 #[.int .i64 n] w fun e w'=>∃v,e=.returned v∧NatV w' v 3 n∧Below w.heap.size w w':=by
 have p3:pw 3=1000000000000000000000000000:=by decide+kernel
 go_enter Tryz.func74,Tryz.ntmps74
 go_wp2
 go_loopw [0,3] (fun m v wr=>∃(k:Int) (l:List Int),0<=k∧k<=n∧m=.int .i64 k∧wr.ownsRow w.heap.size 3 1 v l.length (l.map (Value.int .i64))∧Below w.heap.size w wr∧Hid (l.length<=3∧DigL l∧valN l+pw l.length*k=n∧(0<l.length->pw (l.length-1)<=n))) (fun m _ _=>(intOf m).toNat)
 case atStart=>exact⟨n,[],h0,yDE _,rfl,World.ownsRow_nil _ _ _ _,Below.refl _ _,hid ⟨by decide,DigL.nil,by simp[valN,pw],fun h=>by simp at h⟩⟩
 case round=>
  obtain⟨k,l,hk0,hkn,rfl,hown,hbk,HI⟩:=hrel
  by_cases hk:0<k
  ·obtain⟨L,hL⟩:=exq (l.length)
   rw[<- hL]at hown
   obtain⟨va,vc,rfl⟩:=zAC hown
   have HO:=hid hown
   obtain⟨i1,i2,i3,i4⟩:=HI.out
   have hb:=i2.bnd
   have hpk:pw l.length<=n:=by
    have h2:=zLM l.length
    have:pw l.length*1<=pw l.length*k:=yCJ (by omega) (by omega)
    omega
   have hl2:l.length<=2:=by
    rcases yAP 2 l.length with h|h
    ·have:=pw_mono (show 3<=l.length by omega);omega
    ·exact h
   have et:k.tmod 1000000000=k%1000000000:=yFY hk0
   have ed:k.tdiv 1000000000=k/1000000000:=yFZ hk0
   have HN:=hid (show(l++[k%1000000000]).length<=3∧DigL (l++[k%1000000000])∧valN (l++[k%1000000000])+pw (l++[k%1000000000]).length*(k/1000000000)=n∧(0<(l++[k%1000000000]).length->pw ((l++[k%1000000000]).length-1)<=n)from by
    refine⟨by simp;omega,i2.snoc (by omega) (by omega),?_,fun _=>by simpa using hpk⟩
    rw[zFY,yAN]
    simp only[yBB,yCD,yAW]
    rw[pw]
    have:k=k%1000000000+1000000000*(k/1000000000):=by omega
    generalize k%1000000000=r at this⊢
    generalize k/1000000000=q at this⊢
    subst this
    grind)
   obtain⟨r,hr⟩:=exq (k%1000000000)
   obtain⟨q,hq⟩:=exq (k/1000000000)
   rw[<- hr]at et HN
   rw[<- hq]at ed HN
   have hr1:0<=r∧r<1000000000:=by omega
   have hq1:0<=q∧q<k:=by omega
   have M1:=hid (show L+1<=maxLen by unfold maxLen;omega)
   have M2:=hid (show(L+1)*8<=140737488355328 by omega)
   have M3:=hid (yAF hbk.size (zCL wr (.cells #[.int .i64 r] 3)))
   have HLL:=hid hL
   clear hown i1 i2 i3 i4 hb hpk hl2 hr hq hL HI p3
   go_wp2_with (at_builtin;refine zAN _ rfl (.tmp 8) (.tmp 11) 35 rfl w.heap.size 3 (.int .i64 0) 1 8 Tryz.underlying35 li_nat rfl yBH (.slice va L vc) L _ rfl (HO.out.alloc _) (some ⟨wr.heap.size,0,none⟩) 1 1 [.int .i64 r] rfl rfl zBS (zBC wr _ _) (zEL _) M1.out M2.out M3.out ?_;refine Stop.of ?_)
   refine Stop.go ?_
   intro a3 c3 w3 own3 g3
   have hB3:Below w.heap.size w w3:=(hbk.alloc hbk.size _).grown g3 M3.out (fun k hk=>(HO.out.lt k hk).1)
   go_wp2
   refine⟨⟨q,l++[r],hq1.1,by omega,rfl,?_,hB3,HN⟩,by simp[intOf];omega⟩
   rw[yAN,<- HLL.out]
   simpa using own3
  ·obtain rfl:k=0:=by omega
   obtain⟨va,vc,rfl⟩:=zAC hown
   have HO:=hid hown
   obtain⟨i1,i2,i3,i4⟩:=HI.out
   rw[Int.mul_zero,Int.add_zero]at i3
   have HNV:=hid (show ∀a c,(Value.slice va l.length vc=.slice a l.length c->zAH wr a l->NatV wr (.slice va l.length vc) 3 n)from fun a c e hI=>⟨a,l.length,c,l,e,rfl,i1,hI,i2,zGT.of_low i2 (fun h=>by rw[i3];exact i4 h),i3⟩)
   obtain⟨a5,c5,e5,hI5,_⟩:=zCK hown rfl
   have HF:=hid (HNV.out a5 c5 e5 hI5)
   clear hown i1 i2 i3 i4 HI HNV e5 hI5 p3
   go_wp2
   go_ret
   exact⟨_,rfl,HF.out,hbk⟩
def lenOf:Value->Nat
 | .slice _ k _=>k
 |_=>0
theorem trimmed_c(w:World)(a:Option Addr)(n cap:Nat)(l:List Int)(hn:l.length=n)(hm:n<=1000)(hc:n<=cap)(H:zAH w a l)(hd:DigL l):
 Calls Tryz.prog 141 #[.slice a n cap] w fun e w'=>∃v,e=.returned v∧NatV w' v n (valN l)∧Below w.heap.size w w':=by
 have HN:=hid hn
 have HH:=hid H
 have HD:=hid hd
 clear hn H hd
 go_enter Tryz.func141,Tryz.ntmps141
 go_wp2
 go_loopw [0] (fun v wr=>∃k:Nat,k<=n∧v=.slice a k cap∧wr=w∧Hid (valN (l.take k)=valN l)) (fun v _=>lenOf v)
 case atStart=>exact⟨n,yAC _,rfl,rfl,hid (zES (by rw[HN.out];exact yAC _))⟩
 case round=>
  obtain⟨k,hk,rfl,rfl,HV⟩:=hrel
  have hfin:zGT (l.take k)->NatV wr (.slice a k cap) n (valN l):=fun ht=>by
   refine⟨a,k,cap,l.take k,rfl,by rw[yAU,HN.out];omega,hk,fun j hj=>?_,HD.out.take k,ht,HV.out⟩
   rw[yAU]at hj
   obtain⟨b,o,e,hb,hc⟩:=HH.out j (by omega)
   refine⟨b,o,e,hb,?_⟩
   rw[hc,yCN (by omega)]
  have HF:=hid hfin
  clear hfin
  rcases yBR k with hk0|hk0
  ·subst hk0
   have hF:=HF.out (by rw[List.take_zero];exact zGT.nil)
   have HFF:=hid hF
   clear hF HF
   go_wp2
   go_ret
   exact⟨_,rfl,HFF.out,Below.refl _ _⟩
  ·obtain⟨j,rfl⟩:∃j,k=j+1:=⟨k-1,by omega⟩
   obtain⟨b,o,rfl,hb,hcj⟩:=HH.out j (by rw[HN.out];omega)
   have hv:l[j]?.getD 0=digF l j:=rfl
   rw[hv]at hcj
   have htv:=zER l j
   have HX:=hid (fun(h:digF l j=0)=>show valN (l.take j)=valN l from by rw[<- HV.out,htv,h];simp)
   have HY:=hid (fun(h:digF l j≠0)=>HF.out (by
    have hjl:j<l.length:=by rw[HN.out];omega
    rw[yAI hjl]
    unfold zGT
    simp only[List.getLast?_append,List.getLast?_singleton]
    intro e
    refine h ?_
    unfold digF
    rw[yAA hjl]
    simpa using e))
   obtain⟨d,hdd⟩:=exq (digF l j)
   rw[<- hdd]at hcj HX HY
   have i1:((j+1:Nat):Int)-1=(j:Int):=by omega
   have i2:(j:Int)<((j+1:Nat):Int):=by omega
   have i3:(0:Int)<((j+1:Nat):Int):=by omega
   have i4:IntKind.i64.wrap (((j+1:Nat):Int)-1)=(j:Int):=by rw[i1];exact IntWalk.i64_in _ (by omega)
   have i5:(j:Int)<=(cap:Int):=by omega
   obtain⟨J,hJ⟩:=exq (j+1)
   rw[<- hJ]at i1 i2 i3 i4 hk HY HF⊢
   by_cases h0:d=0
   ·have hz:=HX.out h0
    have HZ:=hid hz
    have hjn:j<=n:=by omega
    have hJJ:j<J:=by omega
    subst h0
    clear hz HX HY HF hv htv hdd HV hJ
    go_wp2
    exact⟨⟨j,hjn,rfl,by first|trivial|rfl,HZ⟩,by simp[lenOf];omega⟩
   ·have hF:=HY.out h0
    have HFF:=hid hF
    have hdb:(d==0)=false:=by simp[h0]
    clear hF HX HY HF hv htv hdd HV hJ
    go_wp2
    go_ret
    exact⟨_,rfl,HFF.out,Below.refl _ _⟩
theorem ord_len{l m:List Int}(hl:DigL l)(hm:DigL m)(tl:zGT l)(tm:zGT m)(h:l.length≠m.length):cmpI (valN l) (valN m)=if l.length<m.length then-1 else 1:=by
 unfold cmpI
 by_cases c:l.length<m.length
 ·rw[if_pos c,if_pos (trim_lt hl hm tm c)]
 ·have:=trim_lt hm hl tl (by omega)
  rw[if_neg c,if_neg (by omega),if_neg (by omega)]
theorem cmp_swap(V U:Int)(h:U<V):cmpI V U=1:=by unfold cmpI;rw[if_neg (by omega),if_neg (by omega)]
theorem order_c(w:World)(v u:Value)(L K:Nat)(N M:Int)(h:NatV w v L N)(k:NatV w u K M)(hL:L<=1000)(hK:K<=1000):
 Calls Tryz.prog 77 #[v,u] w fun e w'=>e=.returned (.int .i64 (cmpI N M))∧Below w.heap.size w w':=by
 obtain⟨a,n,cap,l,rfl,hn,hnL,H,hd,ht,rfl⟩:=h
 obtain⟨a2,n2,cap2,m,rfl,hn2,hnK,H2,hd2,ht2,rfl⟩:=k
 by_cases hlen:n=n2
 rotate_left
 ·have hc:=ord_len hd hd2 ht ht2 (by omega)
  rw[hn,hn2]at hc
  rw[hc]
  have hneb:((n:Int) !=(n2:Int))=true:=by simp;omega
  clear H H2 hd hd2 ht ht2 hc hn hn2
  by_cases c:n<n2
  ·have i1:(n:Int)<(n2:Int):=by omega
   rw[if_pos c]
   go_enter Tryz.func77,Tryz.ntmps77
   go_wp2
   go_ret
   exact⟨rfl,Below.refl _ _⟩
  ·have i1:¬(n:Int)<(n2:Int):=by omega
   rw[if_neg c]
   go_enter Tryz.func77,Tryz.ntmps77
   go_wp2
   go_ret
   exact⟨rfl,Below.refl _ _⟩
 subst hlen
 have HT:=hid (fun(i:Nat) (he:∀j,i<j->digF l j=digF m j) (hi:i<n)=>(show(digF l i<digF m i->cmpI (valN l) (valN m)= -1)∧(digF m i<digF l i->cmpI (valN l) (valN m)=1)from
  ⟨fun h=>by unfold cmpI;rw[if_pos (top_lt hd hd2 he (by omega) h (by omega))],fun h=>cmp_swap _ _ (top_lt hd2 hd (fun j hj=>(he j hj).symm) (by omega) h (by omega))⟩))
 have HE:=hid (fun(he:∀j,digF l j=digF m j)=>show cmpI (valN l) (valN m)=0 from by
  have:l=m:=yCC (by omega) fun i h1 h2=>by
   have:=he i
   unfold digF at this
   rw[yAA h1,yAA h2]at this
   simpa using this
  rw[this];unfold cmpI;rw[if_neg (by omega),if_pos rfl])
 obtain⟨C,hC⟩:=exq (cmpI (valN l) (valN m))
 rw[<- hC]at HT HE⊢
 have HH:=hid (fun(X:World) (hX:Below w.heap.size w X)=>H.below hX)
 have HH2:=hid (fun(X:World) (hX:Below w.heap.size w X)=>H2.below hX)
 have HN:=hid hn
 have HN2:=hid hn2
 have hsub:IntKind.i64.wrap ((n:Int)-1)=(n:Int)-1:=IntWalk.i64_in _ (by omega)
 have hneb:((n:Int) !=(n:Int))=false:=by simp
 have HOUT:=hid (show ∀j,n<=j->digF l j=digF m j from fun j hj=>by
  unfold digF
  rw[yAY (by omega),yAY (by omega)])
 clear H H2 hd hd2 ht ht2 hC hn hn2
 go_enter Tryz.func77,Tryz.ntmps77
 go_wp2
 go_loopw [5] (fun i wr=>∃k:Nat,k<=n∧i=.int .i64 ((k:Int)-1)∧Below w.heap.size w wr∧Hid (∀j,k<=j->digF l j=digF m j)) (fun i _=>(intOf i+1).toNat)
 case atStart=>exact⟨n,yAC _,by simp,Below.refl _ _,HOUT⟩
 case round=>
  obtain⟨k,hk,rfl,hbk,HQ⟩:=hrel
  rcases yBR k with hk0|hk0
  ·subst hk0
   obtain rfl:C=0:=HE.out fun j=>HQ.out j (yAK _)
   go_wp2
   go_ret
   exact⟨rfl,hbk⟩
  ·obtain⟨j,rfl⟩:∃j,k=j+1:=⟨k-1,by omega⟩
   obtain⟨b,o,rfl,hb,hc⟩:=(HH.out wr hbk) j (by rw[HN.out];omega)
   obtain⟨b2,o2,rfl,hb2,hc2⟩:=(HH2.out wr hbk) j (by rw[HN2.out];omega)
   have hv:l[j]?.getD 0=digF l j:=rfl
   have hv2:m[j]?.getD 0=digF m j:=rfl
   rw[hv]at hc
   rw[hv2]at hc2
   obtain⟨HT1,HT2⟩:=HT.out j (fun i hi=>HQ.out i (by omega)) (by omega)
   have HX:=hid (fun(h:digF l j=digF m j)=>show ∀i,j<=i->digF l i=digF m i from fun i hi=>by
    rcases yAP j i with h1|h1
    ·exact HQ.out i (by omega)
    ·obtain rfl:i=j:=by omega
     exact h)
   obtain⟨x,hx⟩:=exq (digF l j)
   obtain⟨y,hy⟩:=exq (digF m j)
   rw[<- hx,<- hy]at HX HT1 HT2
   rw[<- hx]at hc
   rw[<- hy]at hc2
   have e1:((j+1:Nat):Int)-1=(j:Int):=by omega
   rw[e1]
   have i1:(j:Int)<(n:Int):=by omega
   have i2:IntKind.i64.wrap ((j:Int)-1)=(j:Int)-1:=IntWalk.i64_in _ (by omega)
   clear hv hv2 hx hy HQ HT HE e1
   rcases yBS x y with c|c|c
   ·obtain rfl:C= -1:=HT1 c
    have HBK:=hid hbk
    clear HT1 HT2 hbk
    go_wp2
    go_quiet (fail)
    go_wp2
    go_ret
    exact⟨rfl,zAI HBK.out _⟩
   ·have hz:=HX.out c
    have HZ:=hid hz
    subst c
    have HBK:=hid hbk
    clear HT1 HT2 hz HX hbk
    go_wp2
    go_quiet (fail)
    go_wp2
    go_quiet (fail)
    go_wp2
    refine⟨⟨j,by omega,rfl,zAI HBK.out _,HZ⟩,by simp[intOf]⟩
   ·obtain rfl:C=1:=HT2 c
    have i3:¬x<y:=by omega
    have HBK:=hid hbk
    clear HT1 HT2 hbk
    go_wp2
    go_quiet (fail)
    go_wp2
    go_quiet (fail)
    go_wp2
    go_ret
    exact⟨rfl,zAI (zAI HBK.out _) _⟩
end
section
open Go.RowKit
theorem plus_c(w:World)(v u:Value)(L K:Nat)(N M:Int)(h:NatV w v L N)(k:NatV w u K M)(hL:L<=400)(hK:K<=400):
 Calls Tryz.prog 76 #[v,u] w fun e w'=>∃x,e=.returned x∧NatV w' x (max L K+1) (N+M)∧Below w.heap.size w w':=by
 obtain⟨a,n,cap,l,rfl,hn,hnL,H,hd,ht,rfl⟩:=h
 obtain⟨a2,n2,cap2,m,rfl,hn2,hnK,H2,hd2,ht2,rfl⟩:=k
 have HD1:=hid (fun(X:World) (hX:Below w.heap.size w X) (i:Nat)=>zRN X a n cap l hn (by omega) (H.below hX) i)
 have HD2:=hid (fun(X:World) (hX:Below w.heap.size w X) (i:Nat)=>zRN X a2 n2 cap2 m hn2 (by omega) (H2.below hX) i)
 obtain⟨T,hT⟩:=exq (max n n2)
 have hTL:T<=max L K:=by omega
 -- how the sum grows
 have HST:=hid (fun(i:Nat) (o:List Int) (c:Int) (ho:o.length=i) (hod:DigL o) (hc:0<=c∧c<=1) (hv:valN o+pw i*c=valN (l.take i)+valN (m.take i))=>
  show 0<=digF l i+digF m i+c∧digF l i+digF m i+c<=1999999999∧DigL (o++[(digF l i+digF m i+c)%1000000000])∧(0<=(digF l i+digF m i+c)/1000000000∧(digF l i+digF m i+c)/1000000000<=1)∧
   valN (o++[(digF l i+digF m i+c)%1000000000])+pw (i+1)*((digF l i+digF m i+c)/1000000000)=valN (l.take (i+1))+valN (m.take (i+1))from by
  have b1:=zEX hd i
  have b2:=zEX hd2 i
  refine⟨by omega,by omega,hod.snoc (by omega) (by omega),by omega,?_⟩
  rw[zFY,ho,zER,zER,pw]
  have:digF l i+digF m i+c=(digF l i+digF m i+c)%1000000000+1000000000*((digF l i+digF m i+c)/1000000000):=by omega
  generalize (digF l i+digF m i+c)%1000000000=r at this⊢
  generalize (digF l i+digF m i+c)/1000000000=q at this⊢
  have e:c=r+1000000000*q-digF l i-digF m i:=by omega
  subst e
  grind)
 -- the sum when no more is to be added
 have HEN:=hid (fun(i:Nat) (o:List Int) (ho:o.length=i) (hod:DigL o) (hi:T<=i) (hi2:i<=T+1) (hv:valN o+pw i*0=valN (l.take i)+valN (m.take i)) (hlast:T<i->pw T<=valN l+valN m)=>
  show valN o=valN l+valN m∧zGT o from by
  rw[zES (show l.length<=i by omega),zES (show m.length<=i by omega)]at hv
  refine⟨by omega,zGT.of_low hod fun hpos=>?_⟩
  rw[ho]at hpos⊢
  rcases yAP T i with c|c
  ·obtain rfl:i=T+1:=by omega
   have:=hlast c
   rw[yEY];omega
  ·obtain rfl:i=T:=by omega
   have c1:=hd.bnd
   have c2:=hd2.bnd
   rcases yAP n n2 with c|c
   ·have:=ht2.low hd2 (by omega)
    rw[show m.length=i by omega]at this
    omega
   ·have:=ht.low hd (by omega)
    rw[show l.length=i by omega]at this
    omega)
 have HLA:=hid (fun(o:List Int) (hod:DigL o) (ho:o.length=T) (hv:valN o+pw T*1=valN (l.take T)+valN (m.take T))=>show pw T<=valN l+valN m from by
  rw[zES (show l.length<=T by omega),zES (show m.length<=T by omega)]at hv
  have:=hod.bnd
  omega)
 have HZD:=hid (fun(i:Nat) (hi:T<=i)=>show digF l i=0∧digF m i=0 from by
  unfold digF
  rw[yAY (by omega),yAY (by omega)]
  exact⟨rfl,rfl⟩)
 have HDB:=hid (fun(i:Nat)=>And.intro (zEX hd i) (zEX hd2 i))
 obtain⟨S,hS⟩:=exq (valN l+valN m)
 rw[<- hS]at HEN HLA⊢
 have hT1:n<=T:=by omega
 have hT2:n2<=T:=by omega
 have hT3:T=n∨T=n2:=by omega
 have hT4:T<=400:=by omega
 clear H H2 hd hd2 ht ht2 hn hn2 hS hT
 go_enter Tryz.func76,Tryz.ntmps76
 go_wp2
 go_loopw [5,6,7] (fun o c i wr=>∃(t:Nat) (ol:List Int) (cc:Int),t<=T+1∧i=.int .i64 t∧c=.int .i64 cc∧wr.ownsRow w.heap.size 3 1 o t (ol.map (Value.int .i64))∧Below w.heap.size w wr∧0<=cc∧cc<=1∧
  Hid (ol.length=t∧DigL ol∧valN ol+pw t*cc=valN (l.take t)+valN (m.take t)∧(T<t->cc=0∧pw T<=S))) (fun _ _ i _=>T+2-(intOf i).toNat)
 case atStart=>exact⟨0,[],0,yAK _,rfl,rfl,World.ownsRow_nil _ _ _ _,Below.refl _ _,by decide,by decide,hid ⟨rfl,DigL.nil,by simp[valN],fun h=>by omega⟩⟩
 case round=>
  obtain⟨t,ol,cc,ht,rfl,rfl,hown,hbk,hc0,hc1,HI⟩:=hrel
  obtain⟨va,vc,rfl⟩:=zAC hown
  by_cases hgo:t<T∨0<cc
  ·have htT:t<=T:=by
    rcases hgo with h|h
    ·omega
    ·rcases yAP T t with c|c
     ·have:=(HI.out.2.2.2 c).1;omega
     ·exact c
   obtain⟨j1,j2,j3,j4,j5⟩:=HST.out t ol cc HI.out.1 HI.out.2.1 ⟨hc0,hc1⟩ HI.out.2.2.1
   have hlast:t=T->cc=1:=fun e=>by omega
   have HC1:=hid (HD1.out wr hbk t)
   have HC2:=hid (HD2.out wr hbk t)
   have HLT:=hid (show T<t+1->(digF l t+digF m t+cc)/1000000000=0∧pw T<=S from fun h=>by
    obtain rfl:t=T:=by omega
    have hcc:=hlast rfl
    subst hcc
    refine⟨?_,HLA.out ol HI.out.2.1 HI.out.1 HI.out.2.2.1⟩
    obtain⟨z1,z2⟩:=HZD.out t (yAC _)
    rw[z1,z2];decide)
   obtain⟨⟨bx1,bx2⟩,by1,by2⟩:=HDB.out t
   obtain⟨x,hx⟩:=exq (digF l t)
   obtain⟨y,hy⟩:=exq (digF m t)
   rw[<- hx,<- hy]at j1 j2 j3 j4 j5 HLT
   rw[<- hx]at bx1 bx2
   rw[<- hy]at by1 by2
   rw[<- hx]at HC1
   rw[<- hy]at HC2
   have et:(x+y+cc).tmod 1000000000=(x+y+cc)%1000000000:=yFY j1
   have ed:(x+y+cc).tdiv 1000000000=(x+y+cc)/1000000000:=yFZ j1
   obtain⟨z,hz⟩:=exq (x+y+cc)
   have e1:IntKind.i64.wrap (x+y)=x+y:=IntWalk.i64_in _ (by omega)
   have e2:IntKind.i64.wrap (x+y+cc)=z:=by rw[<- hz];exact IntWalk.i64_in _ (by omega)
   rw[<- hz]at et ed j1 j2 j3 j4 j5 HLT
   obtain⟨r,hr⟩:=exq (z%1000000000)
   obtain⟨q,hq⟩:=exq (z/1000000000)
   rw[<- hr]at et j3 j5
   rw[<- hq]at ed j4 j5 HLT
   have HNX:=hid (show(ol++[r]).length=t+1∧DigL (ol++[r])∧valN (ol++[r])+pw (t+1)*q=valN (l.take (t+1))+valN (m.take (t+1))∧(T<t+1->q=0∧pw T<=S)from⟨by simp[HI.out.1],j3,j5,HLT.out⟩)
   have HO:=hid hown
   have HBK:=hid hbk
   have M1:=hid (show t+1<=maxLen by unfold maxLen;omega)
   have M2:=hid (show(t+1)*8<=140737488355328 by omega)
   have M3:=hid (yAF hbk.size (zCL wr (.cells #[.int .i64 r] 3)))
   have hgo3:t<n∨(¬t<n∧t<n2)∨(¬t<n∧¬t<n2∧0<cc):=by omega
   clear hown hbk HI HLT hx hy hz hr hq j1 j2 j3 j5 hlast hgo bx1 bx2 by1 by2 HST HEN HLA HZD HDB
   rcases hgo3 with g1|⟨g1,g2⟩|⟨g1,g2,g3⟩
   all_goals
    go_wp2_with (go_at_call 140;refine HC1.out.mono ?_;rintro e w1 ⟨rfl,rfl⟩;refine Stop.of ?_)
    refine Stop.go ?_
    go_wp2_with (go_at_call 140;refine HC2.out.mono ?_;rintro e w1 ⟨rfl,rfl⟩;refine Stop.of ?_)
    refine Stop.go ?_
    go_wp2_with (at_builtin;refine zAN _ rfl (.tmp 34) (.tmp 37) 35 rfl w.heap.size 3 (.int .i64 0) 1 8 Tryz.underlying35 li_nat rfl yBH (.slice va t vc) t _ rfl (HO.out.alloc _) (some ⟨wr.heap.size,0,none⟩) 1 1 [.int .i64 r] rfl rfl zBS (zBC wr _ _) (zEL _) M1.out M2.out M3.out ?_;refine Stop.of ?_)
    refine Stop.go ?_
    intro a3 c3 w3 own3 g3'
    have hB3:Below w.heap.size w w3:=(HBK.out.alloc HBK.out.size _).grown g3' M3.out (fun k hk=>(HO.out.lt k hk).1)
    go_wp2
    refine⟨⟨t+1,ol++[r],q,by omega,by go_num,rfl,?_,hB3,j4.1,j4.2,HNX⟩,by simp[intOf];omega⟩
    simpa using own3
  ·have g1:¬t<n:=by omega
   have g2:¬t<n2:=by omega
   have g3:¬0<cc:=by omega
   obtain rfl:cc=0:=by omega
   obtain⟨i1,i2,i3,i4⟩:=HI.out
   obtain⟨k1,k2⟩:=HEN.out t ol i1 i2 (by omega) ht i3 (fun h=>(i4 h).2)
   obtain⟨a5,c5,e5,hI5,_⟩:=zCK hown i1
   cases e5
   have HF:=hid (show NatV wr (.slice va t vc) (max L K+1) S from⟨va,t,vc,ol,rfl,i1,by omega,hI5,i2,k2,k1⟩)
   have HBK:=hid hbk
   clear hown hbk HI i1 i2 i3 i4 k1 k2 hI5
   go_wp2
   go_ret
   exact⟨_,rfl,HF.out,HBK.out⟩
end
section
open Go.RowKit
theorem minus_c(w:World)(v u:Value)(L K:Nat)(N M:Int)(h:NatV w v L N)(k:NatV w u K M)(hL:L<=1000)(hK:K<=1000)(hle:M<=N):
 Calls Tryz.prog 78 #[v,u] w fun e w'=>∃x,e=.returned x∧NatV w' x L (N-M)∧Below w.heap.size w w':=by
 obtain⟨a,n,cap,l,rfl,hn,hnL,H,hd,ht,rfl⟩:=h
 obtain⟨a2,n2,cap2,m,rfl,hn2,hnK,H2,hd2,ht2,rfl⟩:=k
 have HD2:=hid (fun(X:World) (hX:Below w.heap.size w X) (i:Nat)=>zRN X a2 n2 cap2 m hn2 (by omega) (H2.below hX) i)
 have HH:=hid (fun(X:World) (hX:Below w.heap.size w X)=>H.below hX)
 have HN:=hid hn
 have hml:=trim_le hd2 hd ht2 hle
 have HDB:=hid (fun(i:Nat)=>And.intro (zEX hd i) (zEX hd2 i))
 have HEN:=hid (fun(o:List Int) (c:Int) (ho:o.length=n) (hod:DigL o) (hc:0<=c) (hv:valN o-pw n*c=valN (l.take n)-valN (m.take n))=>show valN o=valN l-valN m from by
  rw[zES (show l.length<=n by omega),zES (show m.length<=n by omega)]at hv
  have hb:=hod.bnd
  rw[ho]at hb
  have hp:=zLM n
  rcases yBK 0 c with h|h
  ·have:pw n*1<=pw n*c:=yCJ (by omega) (by omega)
   omega
  ·obtain rfl:c=0:=by omega
   omega)
 have HST:=hid (fun(i:Nat) (o:List Int) (c r c':Int) (ho:o.length=i) (hv:valN o-pw i*c=valN (l.take i)-valN (m.take i)) (hr:r=digF l i-digF m i-c+1000000000*c')=>
  show valN (o++[r])-pw (i+1)*c'=valN (l.take (i+1))-valN (m.take (i+1))from by
  rw[zFY,ho,zER,zER,pw]
  subst hr
  grind)
 obtain⟨S,hS⟩:=exq (valN l-valN m)
 rw[<- hS]at HEN⊢
 clear H H2 hd hd2 ht ht2 hn hn2 hS hle hml
 go_enter Tryz.func78,Tryz.ntmps78
 go_wp2
 go_loopw [5,6,11] (fun o c i wr=>∃(t:Nat) (ol:List Int) (cc:Int),t<=n∧i=.int .i64 t∧c=.int .i64 cc∧wr.ownsRow w.heap.size 3 1 o t (ol.map (Value.int .i64))∧Below w.heap.size w wr∧0<=cc∧cc<=1∧
  Hid (ol.length=t∧DigL ol∧valN ol-pw t*cc=valN (l.take t)-valN (m.take t))) (fun _ _ i _=>n-(intOf i).toNat)
 case atStart=>exact⟨0,[],0,yAK _,rfl,rfl,World.ownsRow_nil _ _ _ _,Below.refl _ _,by decide,by decide,hid ⟨rfl,DigL.nil,by simp[valN]⟩⟩
 case round=>
  obtain⟨t,ol,cc,ht,rfl,rfl,hown,hbk,hc0,hc1,HI⟩:=hrel
  obtain⟨va,vc,rfl⟩:=zAC hown
  by_cases hlt:t<n
  ·obtain⟨b,o,rfl,hb,hc⟩:=(HH.out wr hbk) t (by rw[HN.out];exact hlt)
   have hv:l[t]?.getD 0=digF l t:=rfl
   rw[hv]at hc
   obtain⟨⟨bx1,bx2⟩,by1,by2⟩:=HDB.out t
   have HS:=hid (fun r c' (hr:r=digF l t-digF m t-cc+1000000000*c')=>HST.out t ol cc r c' HI.out.1 HI.out.2.2 hr)
   have HDG:=hid (fun(X:World) (hX:Below w.heap.size w X)=>HD2.out X hX t)
   obtain⟨x,hx⟩:=exq (digF l t)
   obtain⟨y,hy⟩:=exq (digF m t)
   rw[<- hx]at hc bx1 bx2 HS
   rw[<- hy]at by1 by2 HS HDG
   have e1:IntKind.i64.wrap (x-y)=x-y:=IntWalk.i64_in _ (by omega)
   obtain⟨z,hz⟩:=exq (x-y-cc)
   have e2:IntKind.i64.wrap (x-y-cc)=z:=by rw[<- hz];exact IntWalk.i64_in _ (by omega)
   rw[<- hz]at HS
   have hzb: -1000000000<=z∧z<1000000000:=by omega
   have hO:=hid hown
   have HO:=hid (fun(X:World) (hX:Below wr.heap.size wr X)=>zBJ hown hX)
   have HBK:=hid hbk
   have M1:=hid (show t+1<=maxLen by unfold maxLen;omega)
   have M2:=hid (show(t+1)*8<=140737488355328 by omega)
   have i1:(t:Int)<(n:Int):=by omega
   clear hown hv hx hy hz HST HEN HDB bx1 bx2 by1 by2 hO hb
   go_wp2
   go_quiet (first| (go_at_call 140;exact Calls.quiet_of_same ((HDG.out _ (by repeat (first|exact hbk|refine zAI ?_ _))).mono fun _ _ h=>⟨h.1,h.2.symm⟩)))
   have HB2:=hid (zAI HBK.out nq)
   have HO2:=hid (HO.out _ (zAI (Below.refl _ _) nq))
   clear HO hbk hc HDG HH HD2 HBK
   generalize wr.drewN nq=wq at HB2 HO2⊢
   by_cases hneg:z<0
   ·obtain⟨r,hr⟩:=exq (z+1000000000)
    have e3:IntKind.i64.wrap (z+1000000000)=r:=by rw[<- hr];exact IntWalk.i64_in _ (by omega)
    have HNX:=hid (show(ol++[r]).length=t+1∧DigL (ol++[r])∧valN (ol++[r])-pw (t+1)*1=valN (l.take (t+1))-valN (m.take (t+1))from⟨by simp[HI.out.1],HI.out.2.1.snoc (by omega) (by omega),HS.out r 1 (by omega)⟩)
    have M3:=hid (yAF HB2.out.size (zCL wq (.cells #[.int .i64 r] 3)))
    clear hr HI HS
    go_wp2_with (at_builtin;refine zAN _ rfl (.tmp 28) (.tmp 30) 35 rfl w.heap.size 3 (.int .i64 0) 1 8 Tryz.underlying35 li_nat rfl yBH (.slice va t vc) t _ rfl (HO2.out.alloc _) (some ⟨wq.heap.size,0,none⟩) 1 1 [.int .i64 r] rfl rfl zBS (zBC wq _ _) (zEL _) M1.out M2.out M3.out ?_;refine Stop.of ?_)
    refine Stop.go ?_
    intro a3 c3 w3 own3 g3'
    have hB3:Below w.heap.size w w3:=(HB2.out.alloc HB2.out.size _).grown g3' M3.out (fun k hk=>(HO2.out.lt k hk).1)
    go_wp2
    refine⟨⟨t+1,ol++[r],1,by omega,by go_num,rfl,?_,hB3,by decide,by decide,HNX⟩,by simp[intOf];omega⟩
    simpa using own3
   ·have HNX:=hid (show(ol++[z]).length=t+1∧DigL (ol++[z])∧valN (ol++[z])-pw (t+1)*0=valN (l.take (t+1))-valN (m.take (t+1))from⟨by simp[HI.out.1],HI.out.2.1.snoc (by omega) (by omega),HS.out z 0 (by omega)⟩)
    have M3:=hid (yAF HB2.out.size (zCL wq (.cells #[.int .i64 z] 3)))
    clear HI HS
    go_wp2_with (at_builtin;refine zAN _ rfl (.tmp 28) (.tmp 30) 35 rfl w.heap.size 3 (.int .i64 0) 1 8 Tryz.underlying35 li_nat rfl yBH (.slice va t vc) t _ rfl (HO2.out.alloc _) (some ⟨wq.heap.size,0,none⟩) 1 1 [.int .i64 z] rfl rfl zBS (zBC wq _ _) (zEL _) M1.out M2.out M3.out ?_;refine Stop.of ?_)
    refine Stop.go ?_
    intro a3 c3 w3 own3 g3'
    have hB3:Below w.heap.size w w3:=(HB2.out.alloc HB2.out.size _).grown g3' M3.out (fun k hk=>(HO2.out.lt k hk).1)
    go_wp2
    refine⟨⟨t+1,ol++[z],0,by omega,by go_num,rfl,?_,hB3,by decide,by decide,HNX⟩,by simp[intOf];omega⟩
    simpa using own3
  ·obtain rfl:t=n:=by omega
   obtain⟨i1,i2,i3⟩:=HI.out
   have hS:=HEN.out ol cc i1 i2 hc0 i3
   obtain⟨a5,c5,e5,hI5,_⟩:=zCK hown i1
   cases e5
   have HT:=hid (trimmed_c wr va t vc ol i1 (by omega) (own_cap hown) hI5 i2)
   rw[hS]at HT
   have HBK:=hid hbk
   clear hown hbk HI i1 i2 i3 hI5 hS HST HEN
   go_wp2_with (go_at_call 141;refine HT.out.mono ?_;rintro e w2 ⟨v2,rfl,hv2,hb2⟩;refine Stop.of ?_)
   refine Stop.go ?_
   have HF:=hid (hv2.le hnL)
   have HB2:=hid (zAA HBK.out hb2)
   clear hv2 hb2
   go_wp2
   go_ret
   exact⟨_,rfl,HF.out,HB2.out⟩
end
section
open Go.RowKit
theorem sp_madeN(w:World)(k:Nat):zBD (w.alloc (.cells (madeCells #[.int .i64 0] k) 3)) w.heap.size (List.replicate k 0):=by
 have e:madeCells #[Value.int .i64 0] k=((List.replicate k (0:Int)).map (Value.int .i64)).toArray:=by
  apply yEO.1
  rw[toList_madeCells_one];simp
 exact⟨[],by rw[World.alloc_heap_new,e,yBC]⟩
theorem valN_rep(k:Nat):valN (List.replicate k 0)=0:=by
 induction k with
 |zero=>rfl
 |succ k ih=>rw[yEE,valN,ih];rfl
theorem digF_rep(k i:Nat):digF (List.replicate k 0) i=0:=by
 unfold digF
 rcases yAP i k with h|h
 ·rw[yAA (by simpa using h)];simp
 ·rw[yAY (by simpa using h)];rfl
theorem digF_set{l:List Int}{k i:Nat}{d:Int}(h:k≠i):digF (l.set k d) i=digF l i:=by
 unfold digF;rw[yCI h]
theorem mul_dig{x y:Int}(hx:0<=x∧x<1000000000)(hy:0<=y∧y<1000000000):0<=x*y∧x*y<=999999998000000001:=by
 refine⟨yBY hx.1 hy.1,?_⟩
 have h1:x*y<=999999999*y:=yAX (by omega) hy.1
 omega
theorem zME(w:World)(v u:Value)(L K:Nat)(N M:Int)(h:NatV w v L N)(k:NatV w u K M)(hL:L<=400)(hK:K<=400):
 Calls Tryz.prog 75 #[v,u] w fun e w'=>∃x,e=.returned x∧NatV w' x (L+K) (N*M)∧Below w.heap.size w w':=by
 obtain⟨a,n,cap,l,rfl,hn,hnL,H,hd,ht,rfl⟩:=h
 obtain⟨a2,n2,cap2,m,rfl,hn2,hnK,H2,hd2,ht2,rfl⟩:=k
 have HD2:=hid (fun(X:World) (hX:Below w.heap.size w X) (i:Nat)=>zRN X a2 n2 cap2 m hn2 (by omega) (H2.below hX) i)
 have HH:=hid (fun(X:World) (hX:Below w.heap.size w X)=>H.below hX)
 have HN:=hid hn
 have HDX:=hid (fun(i:Nat)=>zEX hd i)
 have HDY:=hid (fun(i:Nat)=>zEX hd2 i)
 have HZY:=hid (show digF m n2=0 from by unfold digF;rw[yAY (by omega)];rfl)
 have HTM:=hid (fun j (hj:n2<=j)=>show valN (m.take j)=valN m from zES (by omega))
 have HTL:=hid (show valN (l.take n)=valN l from zES (by omega))
 have HTS:=hid (fun i=>zER l i)
 have HTS2:=hid (fun i=>zER m i)
 obtain⟨P,hP⟩:=exq (valN l*valN m)
 rw[<- hP]
 have HP:=hid hP
 obtain⟨Z,hZ⟩:=exq (n+n2)
 have hZ4:Z<=800:=by omega
 have hZL:Z<=L+K:=by omega
 have hmk:∀w,(Instr.makeSlice 35 (.int .i64 ((n:Int)+(n2:Int))) (.int .i64 ((n:Int)+(n2:Int)))).run Tryz.prog w=.ok (.slice (some ⟨w.heap.size,0,none⟩) Z Z) (w.alloc (.cells (madeCells #[.int .i64 0] Z) 3)):=
  fun w=>by rw[show(n:Int)+(n2:Int)=((Z:Nat):Int)by omega];exact run_make_row' 35 3 (.int .i64 0) 8 Tryz.underlying35 li_nat rfl .i64 .i64 Z (by omega) (by omega) w
 obtain⟨g,hg⟩:=exq (w.heap.size)
 obtain⟨wa,hwa⟩:=exq (w.alloc (.cells (madeCells #[.int .i64 0] Z) 3))
 have hba:Below w.heap.size w wa:=by rw[hwa];exact(Below.refl _ _).alloc (yAC _) _
 have hsp:zBD wa g (List.replicate Z 0):=by rw[hwa,hg];exact sp_madeN w Z
 have HSP:=hid hsp
 have HBA:=hid hba
 have HG:=hid (show w.heap.size<=g by omega)
 have HZ:=hid hZ
 clear hZ
 clear H H2 hd hd2 ht ht2 hn hn2 hP hsp hba
 go_enter Tryz.func75,Tryz.ntmps75
 go_wp2_with fail
 rw[<- hg,<- hwa]
 clear hg hwa hmk
 go_loopw [19] (fun i wr=>∃(t:Nat) (o:List Int),t<=n∧i=.int .i64 t∧zBD wr g o∧Below w.heap.size w wr∧
  Hid (o.length=Z∧DigL o∧valN o=valN (l.take t)*valN m∧∀q,t+n2<=q->digF o q=0)) (fun i _=>n-(intOf i).toNat)
 case atStart=>exact⟨0,_,yAK _,rfl,HSP.out,HBA.out,hid ⟨by simp,fun d h=>by rw[(List.mem_replicate.1 h).2];decide,by rw[valN_rep];simp[valN],fun q _=>digF_rep _ _⟩⟩
 case round=>
  obtain⟨t,o,ht,rfl,hsp,hbk,HI⟩:=hrel
  by_cases hlt:t<n
  ·obtain⟨b,oo,rfl,hb,hc⟩:=(HH.out wr hbk) t (by rw[HN.out];exact hlt)
   have hv:l[t]?.getD 0=digF l t:=rfl
   rw[hv]at hc
   have HX:=hid (HDX.out t)
   have HTX:=hid (HTS.out t)
   obtain⟨x,hx⟩:=exq (digF l t)
   rw[<- hx]at hc HX HTX
   have i1:(t:Int)<(n:Int):=by omega
   have HSP1:=hid hsp
   have HBK1:=hid hbk
   obtain⟨wo,hwo⟩:=exq (wr)
   subst hwo
   clear hv hx hsp hbk hb HSP HBA
   go_wp2
   clear hc
   go_loopw [8,9] (fun c j wr=>∃(s:Nat) (o2:List Int) (cc:Int),s<=n2+1∧j=.int .i64 s∧c=.int .i64 cc∧0<=cc∧cc<1000000000∧zBD wr g o2∧Below w.heap.size w wr∧
    Hid (o2.length=Z∧DigL o2∧valN o2+pw (t+s)*cc=valN (l.take t)*valN m+pw t*(x*valN (m.take s))∧(n2<s->cc=0)∧∀q,(s<=n2->t+n2<=q->digF o2 q=0)∧(t+n2+1<=q->digF o2 q=0))) (fun _ j _=>n2+2-(intOf j).toNat)
   case atStart=>exact⟨0,o,0,yAK _,rfl,rfl,by decide,by decide,HSP1.out,HBK1.out,hid ⟨HI.out.1,HI.out.2.1,by rw[HI.out.2.2.1];simp[valN],fun h=>by omega,fun q=>⟨fun _ h=>HI.out.2.2.2 q h,fun h=>HI.out.2.2.2 q (by omega)⟩⟩⟩
   case round=>
    obtain⟨s,o2,cc,hs,rfl,rfl,hc0,hc1,hsp,hbk,HJ⟩:=hrel
    by_cases hgo:s<n2∨0<cc
    ·have hsn:s<=n2:=by
      rcases hgo with h|h
      ·omega
      ·rcases yAP n2 s with c|c
       ·have:=HJ.out.2.2.2.1 c;omega
       ·exact c
     have htz:t+s<Z:=by have:=HZ.out;omega
     have hcell:=hsp.cell (j:=t+s) (by rw[HJ.out.1];exact htz)
     have hvd:o2[t+s]?.getD 0=digF o2 (t+s):=rfl
     rw[hvd]at hcell
     have hdb:=zEX HJ.out.2.1 (t+s)
     have hyb:=HDY.out s
     have hmb:=mul_dig HX.out hyb
     have hdz:s=n2->digF o2 (t+s)=0:=fun e=>(HJ.out.2.2.2.2 (t+s)).1 hsn (by omega)
     have hyz:s=n2->digF m s=0:=fun e=>by rw[e];exact HZY.out
     have HDG:=hid (fun(X:World) (hX:Below w.heap.size w X)=>HD2.out X hX s)
     have HST:=hid (fun(r q:Int) (hrq:digF o2 (t+s)+x*digF m s+cc=r+1000000000*q) (hr0:0<=r) (hr1:r<1000000000) (hqz:s=n2->q=0)=>
      show(o2.set (t+s) r).length=Z∧DigL (o2.set (t+s) r)∧valN (o2.set (t+s) r)+pw (t+(s+1))*q=valN (l.take t)*valN m+pw t*(x*valN (m.take (s+1)))∧(n2<s+1->q=0)∧∀p,(s+1<=n2->t+n2<=p->digF (o2.set (t+s) r) p=0)∧(t+n2+1<=p->digF (o2.set (t+s) r) p=0)from by
      obtain⟨j1,j2,j3,j4,j5⟩:=HJ.out
      refine⟨by simp[j1],j2.set hr0 hr1,?_,fun h=>hqz (by omega),fun p=>⟨fun h1 h2=>?_,fun h=>?_⟩⟩
      ·rw[set_val (by rw[j1];exact htz),<- Nat.add_assoc,pw,HTS2.out s]
       have e1:=pw_add t s
       generalize digF o2 (t+s)=dd at hrq⊢
       generalize digF m s=y at hrq⊢
       generalize valN o2=A at j3⊢
       generalize valN (l.take t)*valN m=B at j3⊢
       generalize valN (m.take s)=C at j3⊢
       rw[e1]at j3⊢
       generalize pw t=p1 at j3⊢
       generalize pw s=p2 at j3⊢
       have e2:cc=r+1000000000*q-dd-x*y:=by omega
       subst e2
       grind
      ·rw[digF_set (by omega)];exact(j5 p).1 (by omega) h2
      ·rw[digF_set (by omega)];exact(j5 p).2 h)
     obtain⟨d,hdd⟩:=exq (digF o2 (t+s))
     obtain⟨y,hy⟩:=exq (digF m s)
     rw[<- hdd]at hcell hdb hdz HST
     rw[<- hy]at hyb hmb hyz HST HDG
     have hj0:0<=d+x*y+cc:=by omega
     have et:(d+x*y+cc).tmod 1000000000=(d+x*y+cc)%1000000000:=yFY hj0
     have ed:(d+x*y+cc).tdiv 1000000000=(d+x*y+cc)/1000000000:=yFZ hj0
     have hxz:s=n2->x*y=0:=fun e=>by rw[hyz e];simp
     obtain⟨xy,hxy⟩:=exq (x*y)
     rw[<- hxy]at hmb hj0 et ed HST hxz
     obtain⟨z,hz⟩:=exq (d+xy+cc)
     rw[<- hz]at hj0 et ed HST
     obtain⟨r,hr⟩:=exq (z%1000000000)
     obtain⟨q,hq⟩:=exq (z/1000000000)
     rw[<- hr]at et
     rw[<- hq]at ed
     have HNX:=hid (HST.out r q (by omega) (by omega) (by omega) (fun e=>by have:=hdz e;have:=hxz e;omega))
     have hq0:0<=q∧q<1000000000:=by omega
     have e1:IntKind.i64.wrap (x*y)=xy:=by rw[<- hxy];exact IntWalk.i64_in _ (by omega)
     have e2:IntKind.i64.wrap (d+xy)=d+xy:=IntWalk.i64_in _ (by omega)
     have e3:IntKind.i64.wrap (d+xy+cc)=z:=by rw[<- hz];exact IntWalk.i64_in _ (by omega)
     have e5:((t:Int)+(s:Int)).toNat=t+s:=by omega
     have i3:(0:Int)<=(t:Int)+(s:Int):=by omega
     have hfz:=hsp.frozen (t+s)
     have i2:(t:Int)+(s:Int)<(Z:Int):=by omega
     have HSS:=hid (fun(X:World) (hX:zBD X g o2)=>hX.set (t+s) (by rw[HJ.out.1];exact htz) r)
     have HSP2:=hid hsp
     have HBK:=hid hbk
     have hgo2:s<n2∨(¬s<n2∧0<cc):=by omega
     clear hvd hdb hyb hmb hdz hyz hxz hdd hy hxy hz hr hq hj0 HST HJ hgo htz hsp
     rcases hgo2 with g1|⟨g1,g2⟩
     all_goals
      go_wp2
      go_quiet (first| (go_at_call 140;exact Calls.quiet_of_same ((HDG.out _ (by repeat (first|exact HBK.out|refine zAI ?_ _))).mono fun _ _ h=>⟨h.1,h.2.symm⟩)))
      have hspd:=HSP2.out.keep (w':=wr.drewN nq) rfl
      have HSPD:=hid hspd
      have hcd:(wr.drewN nq).cell? ⟨g,t+s,none⟩=some (.int .i64 d):=hcell
      have hfd:(wr.drewN nq).frozen? ⟨g,t+s,none⟩=false:=hfz
      have HST2:=hid (HSS.out _ hspd)
      have HBE:=hid (zAE (zAI HBK.out nq) HG.out (t+s) (.int .i64 r))
      clear hspd hcell hfz HSS HDG HSP2 HBK
      generalize wr.drewN nq=wq at HSPD hcd hfd HST2 HBE⊢
      go_wp2
      refine⟨⟨s+1,_,q,by omega,by go_num,rfl,hq0.1,hq0.2,HST2.out,HBE.out,HNX⟩,by simp[intOf];omega⟩
    ·have g1:¬s<n2:=by omega
     have g2:¬0<cc:=by omega
     obtain rfl:cc=0:=by omega
     obtain⟨j1,j2,j3,j4,j5⟩:=HJ.out
     have HNO:=hid (show o2.length=Z∧DigL o2∧valN o2=valN (l.take (t+1))*valN m∧∀q,t+1+n2<=q->digF o2 q=0 from by
      refine⟨j1,j2,?_,fun q hq=>(j5 q).2 (by omega)⟩
      rw[HTM.out s (by omega)]at j3
      rw[HTX.out,Int.add_mul]
      have:pw t*(x*valN m)=pw t*x*valN m:=by rw[yER]
      omega)
     have HSP2:=hid hsp
     have HBK:=hid hbk
     clear HJ j1 j2 j3 j4 j5 hsp hbk hgo
     go_wp2
     refine⟨⟨t+1,o2,by omega,by go_num,HSP2.out,HBK.out,HNO⟩,by simp[intOf];omega⟩
  ·obtain rfl:t=n:=by omega
   obtain⟨j1,j2,j3,j4⟩:=HI.out
   rw[HTL.out,<- HP.out]at j3
   have HT:=hid (trimmed_c wr (some ⟨g,0,none⟩) Z Z o j1 (by omega) (yAC _) hsp.ints j2)
   rw[j3]at HT
   have HBK:=hid hbk
   clear HI j1 j2 j3 j4 hsp hbk
   go_wp2_with (go_at_call 141;refine HT.out.mono ?_;rintro e w2 ⟨v2,rfl,hv2,hb2⟩;refine Stop.of ?_)
   refine Stop.go ?_
   have HF:=hid (hv2.le hZL)
   have HB2:=hid (zAA HBK.out hb2)
   clear hv2 hb2
   go_wp2
   go_ret
   exact⟨_,rfl,HF.out,HB2.out⟩
end
section
open Go.RowKit
theorem NatV.slice{w:World}{v:Value}{L:Nat}{N:Int}(h:NatV w v L N):∃a n cap,v=.slice a n cap:=by
 obtain⟨a,n,cap,l,h1,_⟩:=h
 exact⟨a,n,cap,h1⟩
def RatQ(w:World)(v:Value)(L:Nat)(s:Bool)(N D:Int):Prop:=∃a n c b m e,v=.agg #[.bool s,.slice a n c,.slice b m e]∧NatV w (.slice a n c) L N∧NatV w (.slice b m e) L D
theorem RatQ.below{w w':World}{v:Value}{L:Nat}{s:Bool}{N D:Int}(h:RatQ w v L s N D)(hb:Below w.heap.size w w'):RatQ w' v L s N D:=by
 obtain⟨a,n,c,b,m,e,h1,h2,h3⟩:=h
 exact⟨a,n,c,b,m,e,h1,h2.below hb,h3.below hb⟩
theorem RatQ.le{w:World}{v:Value}{L K:Nat}{s:Bool}{N D:Int}(h:RatQ w v L s N D)(hk:L<=K):RatQ w v K s N D:=by
 obtain⟨a,n,c,b,m,e,h1,h2,h3⟩:=h
 exact⟨a,n,c,b,m,e,h1,h2.le hk,h3.le hk⟩
theorem NatV.keeps3{w:World}{v0:Value}{L:Nat}{N:Int}{g:Nat}{u v z:Value}(h:NatV w v0 L N)(hg:∃c,w.heap[g]? =some (.cells c 37 (0,0))∧∀x:Int,∀o:Nat,c[o]? ≠some (.int .i64 x)):NatV (((w.setCell ⟨g,0,none⟩ u).setCell ⟨g,1,none⟩ v).setCell ⟨g,2,none⟩ z) v0 L N:=by
 obtain⟨a,n,cap,l,h1,h2,h3,h4,h5⟩:=h
 refine⟨a,n,cap,l,h1,h2,h3,fun j hj=>?_,h5⟩
 obtain⟨b,o,e,hb,hc⟩:=h4 j hj
 refine⟨b,o,e,by simpa using hb,?_⟩
 have hne:b≠g:=by
  rintro rfl
  obtain⟨c,hc1,hc2⟩:=hg
  simp[World.cell?,hc1]at hc
  exact hc2 _ _ hc
 rw[World.cell?_setCell_far _ _ _ _ (fun h=>hne h.symm),World.cell?_setCell_far _ _ _ _ (fun h=>hne h.symm),World.cell?_setCell_far _ _ _ _ (fun h=>hne h.symm)]
 exact hc
def zGD(x y:Bool×Int×Int):Bool×Int×Int:=
 if x.1=y.1 then(x.1,x.2.1*y.2.2+y.2.1*x.2.2,x.2.2*y.2.2)
 else if y.2.1*x.2.2<=x.2.1*y.2.2 then(x.1,x.2.1*y.2.2-y.2.1*x.2.2,x.2.2*y.2.2)
 else(y.1,y.2.1*x.2.2-x.2.1*y.2.2,x.2.2*y.2.2)
theorem cmpI_ge{V U:Int}:(0<=cmpI V U)↔U<=V:=by unfold cmpI;split<;>(try split)<;>omega
theorem zQU(w:World)(v u:Value)(L K:Nat)(s t:Bool)(N D M E:Int)(h:RatQ w v L s N D)(k:RatQ w u K t M E)(hL:L<=100)(hK:K<=100):
 Calls Tryz.prog 24 #[v,u] w fun e w'=>∃x,e=.returned x∧RatQ w' x (L+K+1) (zGD (s,N,D) (t,M,E)).1 (zGD (s,N,D) (t,M,E)).2.1 (zGD (s,N,D) (t,M,E)).2.2∧Below w.heap.size w w':=by
 obtain⟨na,nn,nc,da,dn,dc,rfl,hN,hD⟩:=h
 obtain⟨ma,mn,mc,ea,en,ec,rfl,hM,hE⟩:=k
 obtain⟨s0,hs⟩:=exq (w.heap.size)
 obtain⟨wa,hwa⟩:=exq (((w.alloc (.cells #[.bool s,.slice na nn nc,.slice da dn dc] 37)).alloc (.cells #[.bool t,.slice ma mn mc,.slice ea en ec] 37)).alloc (.cells #[.bool false,.slice none 0 0,.slice none 0 0] 37))
 have hba:Below w.heap.size w wa:=by rw[hwa];exact(((Below.refl _ _).alloc (yAC _) _).alloc (by simp) _).alloc (by simp;omega) _
 have q0:wa.heap[s0+2]? =some (.cells #[.bool false,.slice none 0 0,.slice none 0 0] 37 (0,0)):=by
  have:=World.alloc_heap_new ((w.alloc (.cells #[.bool s,.slice na nn nc,.slice da dn dc] 37)).alloc (.cells #[.bool t,.slice ma mn mc,.slice ea en ec] 37)) (.cells #[.bool false,.slice none 0 0,.slice none 0 0] 37)
  rw[hwa,hs]
  simpa using this
 have hs1:s0+2<wa.heap.size:=(yAB.1 q0).1
 have hc:∀o v,(#[Value.bool s,.slice na nn nc,.slice da dn dc]:Array Value)[o]? =some v->wa.cell? ⟨s0,o,none⟩=some v:=fun o v h=>by
  rw[hwa,hs,World.cell?_alloc_past _ _ _ (by simp;omega),World.cell?_alloc_past _ _ _ (by simp),World.cell?_alloc_at _ _ _ _ rfl];exact h
 have hc2:∀o v,(#[Value.bool t,.slice ma mn mc,.slice ea en ec]:Array Value)[o]? =some v->wa.cell? ⟨s0+1,o,none⟩=some v:=fun o v h=>by
  rw[hwa,hs,World.cell?_alloc_past _ _ _ (by simp),World.cell?_alloc_at _ _ _ _ (by simp)];exact h
 have HS:=hid (fun(Y:World) (hY:Below wa.heap.size wa Y)=>show Y.cell? ⟨s0,0,none⟩=some (.bool s)∧Y.cell? ⟨s0,1,none⟩=some (.slice na nn nc)∧Y.cell? ⟨s0,2,none⟩=some (.slice da dn dc)∧Y.cell? ⟨s0+1,0,none⟩=some (.bool t)∧Y.cell? ⟨s0+1,1,none⟩=some (.slice ma mn mc)∧Y.cell? ⟨s0+1,2,none⟩=some (.slice ea en ec)from by
  have k0:∀o,Y.cell? ⟨s0,o,none⟩=wa.cell? ⟨s0,o,none⟩:=fun o=>hY.cell (p:=⟨s0,o,none⟩) (by show s0<_;omega)
  have k1:∀o,Y.cell? ⟨s0+1,o,none⟩=wa.cell? ⟨s0+1,o,none⟩:=fun o=>hY.cell (p:=⟨s0+1,o,none⟩) (by show s0+1<_;omega)
  exact⟨(k0 0).trans (hc 0 _ rfl),(k0 1).trans (hc 1 _ rfl),(k0 2).trans (hc 2 _ rfl),(k1 0).trans (hc2 0 _ rfl),(k1 1).trans (hc2 1 _ rfl),(k1 2).trans (hc2 2 _ rfl)⟩)
 have HR:=hid (fun(Y:World) (hY:Below wa.heap.size wa Y)=>show Y.cell? ⟨s0+2,0,none⟩=some (.bool false)∧Y.cell? ⟨s0+2,1,none⟩=some (.slice none 0 0)∧Y.cell? ⟨s0+2,2,none⟩=some (.slice none 0 0)∧(∀o,Y.frozen? ⟨s0+2,o,none⟩=false)∧s0+2<Y.heap.size from by
  have h1:=(hY.block (s0+2) hs1).trans q0
  exact⟨by simp[World.cell?,h1],by simp[World.cell?,h1],by simp[World.cell?,h1],fun o=>by simp[World.frozen?,h1],(yAB.1 h1).1⟩)
 have HFIN:=hid (fun(Y:World) (hY:Below wa.heap.size wa Y) (x y z:Value)=>show Below w.heap.size w (((Y.setCell ⟨s0+2,0,none⟩ x).setCell ⟨s0+2,1,none⟩ y).setCell ⟨s0+2,2,none⟩ z)from
  zAE (zAE (zAE (zAA hba hY) (by omega) 0 x) (by omega) 1 y) (by omega) 2 z)
 have HNN:=hid (fun(Y:World) (hY:Below wa.heap.size wa Y)=>And.intro (hN.below (zAA hba hY)) (And.intro (hD.below (zAA hba hY)) (And.intro (hM.below (zAA hba hY)) (hE.below (zAA hba hY)))))
 have HNG:=hid (fun(Y:World) (hY:Below wa.heap.size wa Y)=>show ∃c,Y.heap[s0+2]? =some (.cells c 37 (0,0))∧∀x:Int,∀o:Nat,c[o]? ≠some (.int .i64 x)from
  ⟨_,(hY.block (s0+2) hs1).trans q0,fun x o=>by match o with|0=>simp|1=>simp|2=>simp|o+3=>simp⟩)
 clear hba q0 hs1 hc hc2 hN hD hM hE
 go_enter Tryz.func24,Tryz.ntmps24
 go_wp2_with fail
 rw[<- hs,<- hwa]
 clear hs hwa
 refine zAG (fun j' X=>wAll j'=true->X.cell? ⟨s0,0,none⟩=some (.bool s)∧X.cell? ⟨s0,1,none⟩=some (.slice na nn nc)∧X.cell? ⟨s0,2,none⟩=some (.slice da dn dc)∧X.cell? ⟨s0+1,0,none⟩=some (.bool t)∧X.cell? ⟨s0+1,1,none⟩=some (.slice ma mn mc)∧X.cell? ⟨s0+1,2,none⟩=some (.slice ea en ec)) (by kernel_rfl) ?_
 have hbd:Below wa.heap.size wa wa.drew:=(Below.refl _ _).drew
 generalize wa.drew=wd at hbd⊢
 refine AnyT.tD (i:=0) (v:=.pointer (some ⟨s0,1,none⟩)) rfl rfl (by rintro w' ⟨y1,y2,y3,y4,y5,y6⟩;go_simp) (HS.out _ hbd) ?_;go_frame
 refine AnyT.tD (i:=1) (v:=.slice na nn nc) rfl rfl (by rintro w' ⟨y1,y2,y3,y4,y5,y6⟩;go_simp) (HS.out _ hbd) ?_;go_frame
 refine AnyT.tD (i:=2) (v:=.pointer (some ⟨s0+1,2,none⟩)) rfl rfl (by rintro w' ⟨y1,y2,y3,y4,y5,y6⟩;go_simp) (HS.out _ hbd) ?_;go_frame
 refine AnyT.tD (i:=3) (v:=.slice ea en ec) rfl rfl (by rintro w' ⟨y1,y2,y3,y4,y5,y6⟩;go_simp) (HS.out _ hbd) ?_;go_frame
 refine AnyT.tD (i:=5) (v:=.pointer (some ⟨s0+1,1,none⟩)) rfl rfl (by rintro w' ⟨y1,y2,y3,y4,y5,y6⟩;go_simp) (HS.out _ hbd) ?_;go_frame
 refine AnyT.tD (i:=6) (v:=.slice ma mn mc) rfl rfl (by rintro w' ⟨y1,y2,y3,y4,y5,y6⟩;go_simp) (HS.out _ hbd) ?_;go_frame
 refine AnyT.tD (i:=7) (v:=.pointer (some ⟨s0,2,none⟩)) rfl rfl (by rintro w' ⟨y1,y2,y3,y4,y5,y6⟩;go_simp) (HS.out _ hbd) ?_;go_frame
 refine AnyT.tD (i:=8) (v:=.slice da dn dc) rfl rfl (by rintro w' ⟨y1,y2,y3,y4,y5,y6⟩;go_simp) (HS.out _ hbd) ?_;go_frame
 refine AnyT.tD (i:=10) (v:=.pointer (some ⟨s0,2,none⟩)) rfl rfl (by rintro w' ⟨y1,y2,y3,y4,y5,y6⟩;go_simp) (HS.out _ hbd) ?_;go_frame
 refine AnyT.tD (i:=11) (v:=.slice da dn dc) rfl rfl (by rintro w' ⟨y1,y2,y3,y4,y5,y6⟩;go_simp) (HS.out _ hbd) ?_;go_frame
 refine AnyT.tD (i:=12) (v:=.pointer (some ⟨s0+1,2,none⟩)) rfl rfl (by rintro w' ⟨y1,y2,y3,y4,y5,y6⟩;go_simp) (HS.out _ hbd) ?_;go_frame
 refine AnyT.tD (i:=13) (v:=.slice ea en ec) rfl rfl (by rintro w' ⟨y1,y2,y3,y4,y5,y6⟩;go_simp) (HS.out _ hbd) ?_;go_frame
 refine AnyT.nx (i:=4) rfl ?_
 go_wp2_with (go_at_call 75;refine(zME _ _ _ L K _ _ (HNN.out _ hbd).1 (HNN.out _ hbd).2.2.2 (by omega) (by omega)).mono ?_;rintro e w1 ⟨vw1,rfl,hvw1,hbw1⟩;refine Stop.of ?_)
 refine Stop.go ?_
 obtain⟨aw1,nw1,cw1,rfl⟩:=hvw1.slice
 have HVw1:=hid hvw1
 have HB1:=hid (zAA hbd hbw1)
 have HBXw1:=hid hbw1
 clear hvw1 hbw1
 go_wp2
 refine⟨fun _=>HS.out _ HB1.out,?_⟩
 refine AnyT.nx (i:=9) rfl ?_
 go_wp2_with (go_at_call 75;refine(zME _ _ _ K L _ _ (HNN.out _ HB1.out).2.2.1 (HNN.out _ HB1.out).2.1 (by omega) (by omega)).mono ?_;rintro e w2 ⟨vw2,rfl,hvw2,hbw2⟩;refine Stop.of ?_)
 refine Stop.go ?_
 obtain⟨aw2,nw2,cw2,rfl⟩:=hvw2.slice
 have HVw2:=hid hvw2
 have HB2:=hid (zAA HB1.out hbw2)
 have HBXw2:=hid hbw2
 clear hvw2 hbw2
 go_wp2
 refine⟨fun _=>HS.out _ HB2.out,?_⟩
 refine AnyT.nx (i:=14) rfl ?_
 go_wp2_with (go_at_call 75;refine(zME _ _ _ L K _ _ (HNN.out _ HB2.out).2.1 (HNN.out _ HB2.out).2.2.2 (by omega) (by omega)).mono ?_;rintro e w3 ⟨vw3,rfl,hvw3,hbw3⟩;refine Stop.of ?_)
 refine Stop.go ?_
 obtain⟨aw3,nw3,cw3,rfl⟩:=hvw3.slice
 have HVw3:=hid hvw3
 have HB3:=hid (zAA HB2.out hbw3)
 have HBXw3:=hid hbw3
 clear hvw3 hbw3
 go_wp2
 refine⟨fun _=>HS.out _ HB3.out,?_⟩
 refine AnyT.tD (i:=15) (v:=.slice aw1 nw1 cw1) rfl rfl (by rintro w' ⟨y1,y2,y3,y4,y5,y6⟩;go_simp) (HS.out _ HB3.out) ?_;go_frame
 refine AnyT.tD (i:=16) (v:=.slice aw2 nw2 cw2) rfl rfl (by rintro w' ⟨y1,y2,y3,y4,y5,y6⟩;go_simp) (HS.out _ HB3.out) ?_;go_frame
 refine AnyT.tD (i:=17) (v:=.slice aw3 nw3 cw3) rfl rfl (by rintro w' ⟨y1,y2,y3,y4,y5,y6⟩;go_simp) (HS.out _ HB3.out) ?_;go_frame
 refine AnyT.done (by kernel_rfl) ?_ _
 have HNE:=hid ((HVw1.out.below HBXw2.out).below HBXw3.out)
 have HMD:=hid (((HVw2.out.below HBXw3.out)).le (show K+L<=L+K by omega))
 have HDE:=hid HVw3.out
 obtain⟨y1,y2,y3,y4,y5,y6⟩:=HS.out _ HB3.out
 clear HVw1 HVw2 HVw3 HBXw2 HBXw1 HBXw3 HB1 HB2 hbd
 have HB:=hid HB3.out
 clear HB3 y1 y2 y3 y4 y5 y6
 by_cases hst:s=t
 ·subst hst
  have HQ:=hid (show zGD (s,N,D) (s,M,E)=(s,N*E+M*D,D*E)from if_pos rfl)
  have hsb:(s==s)=true:=by simp
  obtain⟨y1,y2,y3,y4,y5,y6⟩:=HS.out _ HB.out
  go_wp2
  refine zAG (fun j' X=>decide (j'<=6)=true->X.cell? ⟨s0,0,none⟩=some (.bool s)) (by kernel_rfl) ?_
  obtain⟨wq,hwq⟩:=exq (w3.drew)
  have hbq:Below wa.heap.size wa wq:=by rw[hwq];exact HB.out.drew
  have hb0:Below w3.heap.size w3 wq:=by rw[hwq];exact(Below.refl _ _).drew
  rw[<- hwq]
  clear hwq
  refine AnyT.tD (i:=0) (v:=.pointer (some ⟨s0,0,none⟩)) rfl rfl (by rintro w' y1;go_simp) ((HS.out _ hbq).1) ?_;go_frame
  refine AnyT.tD (i:=1) (v:=.bool s) rfl rfl (by rintro w' y1;go_simp) ((HS.out _ hbq).1) ?_;go_frame
  refine AnyT.tD (i:=2) (v:=.slice aw1 nw1 cw1) rfl rfl (by rintro w' y1;go_simp) ((HS.out _ hbq).1) ?_;go_frame
  refine AnyT.tD (i:=3) (v:=.slice aw2 nw2 cw2) rfl rfl (by rintro w' y1;go_simp) ((HS.out _ hbq).1) ?_;go_frame
  refine AnyT.tD (i:=5) (v:=.slice aw3 nw3 cw3) rfl rfl (by rintro w' y1;go_simp) ((HS.out _ hbq).1) ?_;go_frame
  refine AnyT.nx (i:=4) rfl ?_
  go_wp2_with (go_at_call 76;refine(plus_c _ _ _ (L+K) (L+K) _ _ (HNE.out.below hb0) (HMD.out.below hb0) (by omega) (by omega)).mono ?_;rintro e w5 ⟨v5,rfl,hv5,hb5⟩;refine Stop.of ?_)
  refine Stop.go ?_
  obtain⟨a5,n5,c5,rfl⟩:=hv5.slice
  have HV5:=hid hv5
  have HB5:=hid (zAA hbq hb5)
  have HDE5:=hid ((HDE.out.below hb0).below hb5)
  obtain⟨x0,x1,x2,hfz,hlt⟩:=HR.out _ HB5.out
  have f0:=hfz 0
  have f1:=hfz 1
  have f2:=hfz 2
  have HFI:=hid (HFIN.out _ HB5.out (.bool s) (.slice a5 n5 c5) (.slice aw3 nw3 cw3))
  have HKN:=hid (hv5.keeps3 (g:=s0+2) (u:=.bool s) (v:=.slice a5 n5 c5) (z:=.slice aw3 nw3 cw3) (HNG.out _ HB5.out))
  have HKD:=hid (HDE5.out.keeps3 (g:=s0+2) (u:=.bool s) (v:=.slice a5 n5 c5) (z:=.slice aw3 nw3 cw3) (HNG.out _ HB5.out))
  clear hv5 hb5 hfz hb0
  go_wp2
  refine⟨fun _=>(HS.out _ HB5.out).1,?_⟩
  refine AnyT.tD (i:=6) (v:=.agg #[.bool s,.slice a5 n5 c5,.slice aw3 nw3 cw3]) rfl rfl (by rintro w' y1;go_simp) ((HS.out _ HB5.out).1) ?_;go_frame
  refine AnyT.nx (i:=7) rfl ?_
  go_wp2
  refine⟨fun h=>absurd h (by decide),?_⟩
  refine AnyT.done (by kernel_rfl) ?_ _
  go_wp2
  refine bodyPost_ret (v:=.agg #[.bool s,.slice a5 n5 c5,.slice aw3 nw3 cw3]) ?_ rfl ⟨_,rfl,?_,HFI.out⟩
  ·simp[results,Tryz.results24,go_sem,x0,x1,x2,f0,f1,f2,hlt]
  ·rw[HQ.out];exact⟨_,_,_,_,_,_,rfl,HKN.out.le (by omega),HKD.out.le (by omega)⟩
 ·have hsb:(s==t)=false:=by simpa using hst
  have HOR:=hid (order_c w3 _ _ (L+K) (L+K) _ _ HNE.out HMD.out (by omega) (by omega))
  obtain⟨y1,y2,y3,y4,y5,y6⟩:=HS.out _ HB.out
  obtain⟨cv,hcv⟩:=exq (cmpI (N*E) (M*D))
  rw[<- hcv]at HOR
  have hge:0<=cv↔M*D<=N*E:=by rw[hcv];exact cmpI_ge
  have HGE:=hid hge
  have HST:=hid hst
  clear hcv hge hst
  go_wp2_with (go_at_call 77;refine HOR.out.mono ?_;rintro e w4 ⟨rfl,hb4⟩;refine Stop.of ?_)
  refine Stop.go ?_
  have HNE4:=hid (HNE.out.below hb4)
  have HMD4:=hid (HMD.out.below hb4)
  have HDE4:=hid (HDE.out.below hb4)
  have HB4:=hid (zAA HB.out hb4)
  clear HNE HMD HDE HB HOR hb4
  have HB:=HB4
  have HDE:=HDE4
  clear HB4 HDE4
  obtain⟨y1,y2,y3,y4,y5,y6⟩:=HS.out _ HB.out
  by_cases hcc:0<=cv
  ·have hle:=HGE.out.1 hcc
   have HQ:=hid (show zGD (s,N,D) (t,M,E)=(s,N*E-M*D,D*E)from by unfold zGD;rw[if_neg HST.out,if_pos hle])
   have HLE:=hid hle
   clear hle
   go_wp2
   refine zAG (fun j' X=>decide (j'<=6)=true->X.cell? ⟨s0,0,none⟩=some (.bool s)) (by kernel_rfl) ?_
   obtain⟨wq,hwq⟩:=exq (w4.drew)
   have hbq:Below wa.heap.size wa wq:=by rw[hwq];exact HB.out.drew
   have hb0:Below w4.heap.size w4 wq:=by rw[hwq];exact(Below.refl _ _).drew
   rw[<- hwq]
   clear hwq
   refine AnyT.tD (i:=0) (v:=.pointer (some ⟨s0,0,none⟩)) rfl rfl (by rintro w' y1;go_simp) ((HS.out _ hbq).1) ?_;go_frame
   refine AnyT.tD (i:=1) (v:=.bool s) rfl rfl (by rintro w' y1;go_simp) ((HS.out _ hbq).1) ?_;go_frame
   refine AnyT.tD (i:=2) (v:=.slice aw1 nw1 cw1) rfl rfl (by rintro w' y1;go_simp) ((HS.out _ hbq).1) ?_;go_frame
   refine AnyT.tD (i:=3) (v:=.slice aw2 nw2 cw2) rfl rfl (by rintro w' y1;go_simp) ((HS.out _ hbq).1) ?_;go_frame
   refine AnyT.tD (i:=5) (v:=.slice aw3 nw3 cw3) rfl rfl (by rintro w' y1;go_simp) ((HS.out _ hbq).1) ?_;go_frame
   refine AnyT.nx (i:=4) rfl ?_
   go_wp2_with (go_at_call 78;refine(minus_c _ _ _ (L+K) (L+K) _ _ (HNE4.out.below hb0) (HMD4.out.below hb0) (by omega) (by omega) HLE.out).mono ?_;rintro e w5 ⟨v5,rfl,hv5,hb5⟩;refine Stop.of ?_)
   refine Stop.go ?_
   obtain⟨a5,n5,c5,rfl⟩:=hv5.slice
   have HV5:=hid hv5
   have HB5:=hid (zAA hbq hb5)
   have HDE5:=hid ((HDE.out.below hb0).below hb5)
   obtain⟨x0,x1,x2,hfz,hlt⟩:=HR.out _ HB5.out
   have f0:=hfz 0
   have f1:=hfz 1
   have f2:=hfz 2
   have HFI:=hid (HFIN.out _ HB5.out (.bool s) (.slice a5 n5 c5) (.slice aw3 nw3 cw3))
   have HKN:=hid (hv5.keeps3 (g:=s0+2) (u:=.bool s) (v:=.slice a5 n5 c5) (z:=.slice aw3 nw3 cw3) (HNG.out _ HB5.out))
   have HKD:=hid (HDE5.out.keeps3 (g:=s0+2) (u:=.bool s) (v:=.slice a5 n5 c5) (z:=.slice aw3 nw3 cw3) (HNG.out _ HB5.out))
   clear hv5 hb5 hfz hb0
   go_wp2
   refine⟨fun _=>(HS.out _ HB5.out).1,?_⟩
   refine AnyT.tD (i:=6) (v:=.agg #[.bool s,.slice a5 n5 c5,.slice aw3 nw3 cw3]) rfl rfl (by rintro w' y1;go_simp) ((HS.out _ HB5.out).1) ?_;go_frame
   refine AnyT.nx (i:=7) rfl ?_
   go_wp2
   refine⟨fun h=>absurd h (by decide),?_⟩
   refine AnyT.done (by kernel_rfl) ?_ _
   go_wp2
   refine bodyPost_ret (v:=.agg #[.bool s,.slice a5 n5 c5,.slice aw3 nw3 cw3]) ?_ rfl ⟨_,rfl,?_,HFI.out⟩
   ·simp[results,Tryz.results24,go_sem,x0,x1,x2,f0,f1,f2,hlt]
   ·rw[HQ.out];exact⟨_,_,_,_,_,_,rfl,HKN.out.le (by omega),HKD.out.le (by omega)⟩
  ·have hle:¬M*D<=N*E:=fun h=>hcc (HGE.out.2 h)
   have HQ:=hid (show zGD (s,N,D) (t,M,E)=(t,M*D-N*E,D*E)from by unfold zGD;rw[if_neg HST.out,if_neg hle])
   have HLE:=hid hle
   clear hle
   go_wp2
   refine zAG (fun j' X=>decide (j'<=6)=true->X.cell? ⟨s0+1,0,none⟩=some (.bool t)) (by kernel_rfl) ?_
   obtain⟨wq,hwq⟩:=exq (w4.drew)
   have hbq:Below wa.heap.size wa wq:=by rw[hwq];exact HB.out.drew
   have hb0:Below w4.heap.size w4 wq:=by rw[hwq];exact(Below.refl _ _).drew
   rw[<- hwq]
   clear hwq
   refine AnyT.tD (i:=0) (v:=.pointer (some ⟨s0+1,0,none⟩)) rfl rfl (by rintro w' y1;go_simp) ((HS.out _ hbq).2.2.2.1) ?_;go_frame
   refine AnyT.tD (i:=1) (v:=.bool t) rfl rfl (by rintro w' y1;go_simp) ((HS.out _ hbq).2.2.2.1) ?_;go_frame
   refine AnyT.tD (i:=2) (v:=.slice aw2 nw2 cw2) rfl rfl (by rintro w' y1;go_simp) ((HS.out _ hbq).2.2.2.1) ?_;go_frame
   refine AnyT.tD (i:=3) (v:=.slice aw1 nw1 cw1) rfl rfl (by rintro w' y1;go_simp) ((HS.out _ hbq).2.2.2.1) ?_;go_frame
   refine AnyT.tD (i:=5) (v:=.slice aw3 nw3 cw3) rfl rfl (by rintro w' y1;go_simp) ((HS.out _ hbq).2.2.2.1) ?_;go_frame
   refine AnyT.nx (i:=4) rfl ?_
   go_wp2_with (go_at_call 78;refine(minus_c _ _ _ (L+K) (L+K) _ _ (HMD4.out.below hb0) (HNE4.out.below hb0) (by omega) (by omega) (by have:=HLE.out;omega)).mono ?_;rintro e w5 ⟨v5,rfl,hv5,hb5⟩;refine Stop.of ?_)
   refine Stop.go ?_
   obtain⟨a5,n5,c5,rfl⟩:=hv5.slice
   have HV5:=hid hv5
   have HB5:=hid (zAA hbq hb5)
   have HDE5:=hid ((HDE.out.below hb0).below hb5)
   obtain⟨x0,x1,x2,hfz,hlt⟩:=HR.out _ HB5.out
   have f0:=hfz 0
   have f1:=hfz 1
   have f2:=hfz 2
   have HFI:=hid (HFIN.out _ HB5.out (.bool t) (.slice a5 n5 c5) (.slice aw3 nw3 cw3))
   have HKN:=hid (hv5.keeps3 (g:=s0+2) (u:=.bool t) (v:=.slice a5 n5 c5) (z:=.slice aw3 nw3 cw3) (HNG.out _ HB5.out))
   have HKD:=hid (HDE5.out.keeps3 (g:=s0+2) (u:=.bool t) (v:=.slice a5 n5 c5) (z:=.slice aw3 nw3 cw3) (HNG.out _ HB5.out))
   clear hv5 hb5 hfz hb0
   go_wp2
   refine⟨fun _=>(HS.out _ HB5.out).2.2.2.1,?_⟩
   refine AnyT.tD (i:=6) (v:=.agg #[.bool t,.slice a5 n5 c5,.slice aw3 nw3 cw3]) rfl rfl (by rintro w' y1;go_simp) ((HS.out _ HB5.out).2.2.2.1) ?_;go_frame
   refine AnyT.nx (i:=7) rfl ?_
   go_wp2
   refine⟨fun h=>absurd h (by decide),?_⟩
   refine AnyT.done (by kernel_rfl) ?_ _
   go_wp2
   refine bodyPost_ret (v:=.agg #[.bool t,.slice a5 n5 c5,.slice aw3 nw3 cw3]) ?_ rfl ⟨_,rfl,?_,HFI.out⟩
   ·simp[results,Tryz.results24,go_sem,x0,x1,x2,f0,f1,f2,hlt]
   ·rw[HQ.out];exact⟨_,_,_,_,_,_,rfl,HKN.out.le (by omega),HKD.out.le (by omega)⟩
end
section
open Go.RowKit
def zKD(w:World)(a:Option Addr)(ls:List (List Rt)):Prop:=
 ∀j (hj:j<ls.length),∃b off ra n cap,a=some ⟨b,off,none⟩∧b<w.heap.size∧w.cell? ⟨b,off+j,none⟩=some (.slice ra n cap)∧ls[j].length=n∧n<=maxLen∧zCB w ra ls[j]
theorem zKD.below{w w':World}{a:Option Addr}{l:List (List Rt)}(h:zKD w a l)(hb:Below w.heap.size w w'):zKD w' a l:=by
 intro j hj
 obtain⟨b,off,ra,n,cap,e,hlt,h0,hn,hm,hi⟩:=h j hj
 exact⟨b,off,ra,n,cap,e,yAJ hlt hb.size,(hb.cell (p:=⟨b,_,none⟩) hlt).trans h0,hn,hm,hi.below hb⟩
end
section
open Go.RowKit
theorem copy_rowN{P:Program}(w:World)(dT sT ty:TypeId)(g o dLen dCap:Nat)(a:Addr)(sLen sCap sz:Nat)(cur:Array Value)(t:TypeId)(cs:List Value)(elem:TypeId)
 (hu:P.underlying dT=some (.slice elem))(hs:(P.info? elem).map (·.size)=some sz)(hg:w.heap[g]? =some (.cells cur t (0,0)))(hn:cs.length=Nat.min sLen dLen*sz)
 (hsrc:∀j v,cs[j]? =some v->w.cell? (a.add j)=some v)(hfit:o+cs.length<=cur.size)(h1:∀v∈cs,v.oneCell'=true):
 (Builtin.copy_ #[dT,sT] ty #[.slice (some ⟨g,o,none⟩) dLen dCap,.slice (some a) sLen sCap]).run P w=.ok (goInt (Nat.min sLen dLen)) (w.setRow g (cur.toList.take o++cs++cur.toList.drop (o+cs.length)).toArray):=by
 have hl:=run_loadCells_list (P:=P) w a cs hsrc
 have hst:=run_storeCells_at P g o t cs 0 cur w hg (by simpa using hfit) h1
 cases hq:P.info? elem with
 |none=>simp[hq]at hs
 |some i=>
  have hi:i.size=sz:=by simpa[hq]using hs
  simp[Builtin.copy_,run_underlying hu,Builtin.lenOf,Builtin.firstCells,sizeOf,typeInfo,hq,hi,<- hn,hl,hst]
theorem wpList_copyN{P:Program}{w:World}{ops:Array Oper}{rest:List Oper}{o:Oper}{a:Act}{Q:Exit->Act->World->Prop}(hgd:o.guard=none)(d s:Operand)(dT sT:TypeId)
 (ho:o.op=.call {callee:=.builtin .copy,args:=#[d,s],argTypes:=#[dT,sT]})(elem:TypeId)(sz:Nat)(hu:P.underlying dT=some (.slice elem))(hsz:(P.info? elem).map (·.size)=some sz)
 (g off dLen dCap:Nat)(ad:Addr)(sLen sCap:Nat)(hd:a.eval d=.slice (some ⟨g,off,none⟩) dLen dCap)(hs:a.eval s=.slice (some ad) sLen sCap)
 (cur:List Value)(t:TypeId)(hg:w.heap[g]? =some (.cells cur.toArray t (0,0)))(cs:List Value)(m:Nat)(hm:m=Nat.min sLen dLen)(hn:cs.length=m*sz)
 (hsrc:∀j v,cs[j]? =some v->w.cell? (ad.add j)=some v)(hfit:off+cs.length<=cur.length)(h1:∀v∈cs,v.oneCell'=true)(B:Nat)(w0:World)(hb:Below B w0 w)(hBg:B<=g)
 (h:∀w',Hid (w'.heap[g]? =some (.cells (splice cur off cs).toArray t (0,0)))->Below B w0 w'->wpList P ops Q rest (a.put o.dst (goInt m)) w'):wpList P ops Q (o::rest) a w:=by
 refine wpList_plain hgd fun K hK=>?_
 have hrun:=copy_rowN (P:=P) w dT sT o.type g off dLen dCap ad sLen sCap sz cur.toArray t cs elem hu hsz hg (by rw[hn,hm]) hsrc (by simpa using hfit) h1
 unfold Oper.wp
 rw[<- hm]at hrun
 simp[execOp,ho,resolve,invoke,builtin,hd,hs,hrun,Result.andThen]
 refine hK _ _ (h _ ?_ (below_setRow hb hBg _))
 show _=_
 simpa[splice]using setRow_heap w g _ _ t _ hg
theorem zFD(l m:List Rt):zAQ (l++m)=zAQ l++zAQ m:=by simp[zAQ]
theorem zPE(L M:List Rt)(k:Nat)(c:List Rt)(hk:k+c.length<=L.length):splice (zAQ L) (k*2) (zAQ c)=zAQ (L.take k++(c++L.drop (k+c.length))):=by
 unfold splice
 have h1:(zAQ L).take (k*2)=zAQ (L.take k):=by
  have:=zFD (L.take k) (L.drop k)
  rw[yCY]at this
  rw[this,List.take_append_of_le_length (by rw[zBU,yAU];omega),yAL (by rw[zBU,yAU];omega)]
 have h2:(zAQ L).drop (k*2+(zAQ c).length)=zAQ (L.drop (k+c.length)):=by
  have:=zFD (L.take (k+c.length)) (L.drop (k+c.length))
  rw[yCY]at this
  have e:k*2+(zAQ c).length=(zAQ (L.take (k+c.length))).length:=by rw[zBU,zBU,yAU];omega
  rw[this,e,List.drop_left]
 rw[h1,h2,zFD,zFD]
theorem bmul_c(x y:Nat)(hx:x<18446744073709551616)(hy:y<18446744073709551616)(h:x*y<18446744073709551616)(w:World):
 Calls Tryz.prog 227 #[.int .u64 x,.int .u64 y] w fun e w'=>e=.returned (.tuple #[.int .u64 0,.int .u64 ((x*y:Nat):Int)])∧w=w':=by
 have HM:=hid (mul64_c x y hx hy w)
 rw[Nat.div_eq_of_lt h,Nat.mod_eq_of_lt h]at HM
 obtain⟨z,hz⟩:=exq (x*y)
 rw[<- hz]at HM⊢
 clear hz h hx hy
 go_enter Tryz.func227,Tryz.ntmps227
 go_wp2_with (go_at_call 209;refine HM.out.mono ?_;rintro e w1 ⟨rfl,rfl⟩)
 go_ret2
 exact⟨rfl,rfl⟩
theorem zNX:(Tryz.prog.info? 29).map (·.size)=some 2:=by kernel_rfl
theorem repeat_c(w:World)(a:Option Addr)(cap:Nat)(r:Rt)(H:zCB w a [r])(N:Nat)(hN1:1<=N)(hN:N<=1000):
 Calls Tryz.prog 186 #[.slice a 1 cap,.int .i64 N] w fun e w'=>∃g,e=.returned (.slice (some ⟨g,0,none⟩) N N)∧w.heap.size<=g∧zBO w' g (List.replicate N r)∧Below w.heap.size w w':=by
 obtain⟨b,off,rfl,hb,h0,h1⟩:=H 0 (by simp)
 simp only[Nat.zero_mul,yDS,yBG]at h0 h1
 have HMU:=hid (bmul_c 1 N (by decide) (by omega) (by omega) w)
 rw[Nat.one_mul]at HMU
 have w1:IntKind.u64.wrap (1:Int)=1:=by decide
 have w2:IntKind.u64.wrap (N:Int)=N:=by rw[IntKind.wrap_u64];omega
 have w3:IntKind.i64.wrap (N:Int)=N:=IntWalk.i64_in _ (by omega)
 have hmk:=zHH N (by omega)
 obtain⟨wa,hwa⟩:=exq (w.alloc (.cells (madeCells #[.int .i64 0,.int .i64 0] (N*2)) 29))
 obtain⟨g,hg⟩:=exq (w.heap.size)
 have hba:Below w.heap.size w wa:=by rw[hwa];exact(Below.refl _ _).alloc (yAC _) _
 have hrb0:zBO wa g (List.replicate N (0,0)):=by rw[hwa,hg];exact zRF w N
 have hgb:g≠b:=by omega
 have hsrc:∀(X:World),X.heap[b]? =w.heap[b]? ->∀(j:Nat) (v:Value),(zBH r)[j]? =some v->X.cell? ((⟨b,off,none⟩:Addr).add j)=some v:=by
  intro X hX j v hv
  have e:∀o,X.cell? ⟨b,o,none⟩=w.cell? ⟨b,o,none⟩:=fun o=>World.cell?_of_block hX
  match j,hv with
  |0,hv=>cases hv;exact(e _).trans h0
  |1,hv=>cases hv;exact(e _).trans h1
  |j+2,hv=>simp[zBH]at hv
 have hcp:=copy_rowN (P:=Tryz.prog) wa 42 42 3 g 0 N N ⟨b,off,none⟩ 1 cap 2 (zAQ (List.replicate N (0,0))).toArray 29 (zBH r) 29 (by kernel_rfl) zNX hrb0 (by rw[show Nat.min 1 N=1 from yEI hN1];rfl) (hsrc wa (hba.block b hb)) (by simp[zBH,zBU];omega) (rat_one r)
 rw[show Nat.min 1 N=1 from yEI hN1]at hcp
 obtain⟨w5,hw5⟩:=exq (wa.setRow g ((zAQ (List.replicate N (0,0))).toArray.toList.take 0++zBH r++(zAQ (List.replicate N (0,0))).toArray.toList.drop (0+(zBH r).length)).toArray)
 rw[<- hw5]at hcp
 have hrb1:zBO w5 g (List.replicate 1 r++List.replicate (N-1) (0,0)):=by
  rw[hw5]
  have:=setRow_heap wa g _ ((zAQ (List.replicate N (0,0))).toArray.toList.take 0++zBH r++(zAQ (List.replicate N (0,0))).toArray.toList.drop (0+(zBH r).length)).toArray _ _ hrb0
  unfold zBO
  rw[this]
  have e:=zPE (List.replicate N (0,0)) [] 0 [r] (by simp;omega)
  unfold splice at e
  have e2:zAQ [r]=zBH r:=by simp[zAQ]
  rw[e2]at e
  have e3:(List.replicate N ((0:Int),(0:Int))).take 0++([r]++(List.replicate N (0,0)).drop (0+[r].length))=List.replicate 1 r++List.replicate (N-1) (0,0):=by simp
  rw[e3]at e
  simp only[yBZ,Nat.zero_mul]at e⊢
  rw[e]
 have hb5:Below w.heap.size w w5:=by rw[hw5];exact below_setRow hba (by omega) _
 have HRB1:=hid hrb1
 have HB5:=hid hb5
 have HG:=hid hg
 clear hba hrb0 hgb hsrc hrb1 hb5 hw5 h0 h1 H
 go_enter Tryz.func186,Tryz.ntmps186
 go_wp2_with (go_at_call 227;refine HMU.out.mono ?_;rintro e w4 ⟨rfl,rfl⟩;refine Stop.of ?_)
 refine Stop.go ?_
 clear HMU
 rw[hg,hwa]at hcp
 clear hg hwa
 go_wp2_with fail
 clear hcp hmk
 rw[<- HG.out]
 go_loopw [8] (fun i wr=>∃k:Nat,1<=k∧k<=N∧i=.int .i64 k∧zBO wr g (List.replicate k r++List.replicate (N-k) (0,0))∧Below w.heap.size w wr) (fun i _=>N-(intOf i).toNat)
 case atStart=>exact⟨1,by omega,hN1,rfl,HRB1.out,HB5.out⟩
 case round=>
  obtain⟨k,hk1,hk,rfl,hrk,hbk⟩:=hrel
  by_cases hlt:k<N
  ·have i1:(k:Int)<(N:Int):=by omega
   have i2:(0:Int)<=(k:Int):=by omega
   have i3:(k:Int)<=(N:Int):=by omega
   have i4:¬N=k:=by omega
   have HRK:=hid hrk
   have HBK:=hid hbk
   clear hrk hbk
   go_wp2
   refine zAG (fun j' X=>wAll j'=true->True) (by kernel_rfl) ?_
   have hbd:Below w.heap.size w wr.drew:=HBK.out.drew
   have hrd:zBO wr.drew g (List.replicate k r++List.replicate (N-k) (0,0)):=HRK.out.keep rfl
   generalize wr.drew=wd at hbd hrd⊢
   have HRD:=hid hrd
   have HBD:=hid hbd
   clear hrd hbd
   refine AnyT.tD (i:=0) (v:=.int .i64 k) rfl rfl (by rintro w' y1;go_simp) trivial ?_;go_frame
   refine AnyT.tD (i:=1) (v:=.slice (some ⟨g,0,none⟩) N N) rfl rfl (by rintro w' y1;go_simp) trivial ?_;go_frame
   refine AnyT.tD (i:=2) (v:=.int .i64 k) rfl rfl (by rintro w' y1;go_simp) trivial ?_;go_frame
   refine AnyT.tD (i:=3) (v:=.slice (some ⟨g,k*2,none⟩) (N-k) (N-k)) rfl rfl (by rintro w' y1;go_simp) trivial ?_;go_frame
   refine AnyT.tD (i:=4) (v:=.slice (some ⟨g,0,none⟩) N N) rfl rfl (by rintro w' y1;go_simp) trivial ?_;go_frame
   refine AnyT.tD (i:=5) (v:=.int .i64 k) rfl rfl (by rintro w' y1;go_simp) trivial ?_;go_frame
   refine AnyT.tD (i:=6) (v:=.slice (some ⟨g,0,none⟩) k N) rfl rfl (by rintro w' y1;go_simp) trivial ?_;go_frame
   refine AnyT.nx (i:=7) rfl ?_
   obtain⟨m,hm⟩:=exq (Nat.min k (N-k))
   have hm1:1<=m∧k+m<=N:=by rw[hm];show 1<=min k (N-k)∧k+min k (N-k)<=N;omega
   have hcl:(zAQ (List.replicate m r)).length=m*2:=by rw[zBU,yEJ]
   refine wpList_copyN rfl (.tmp 41) (.tmp 44) 42 42 rfl 29 2 (by kernel_rfl) zNX g (k*2) (N-k) (N-k) ⟨g,0,none⟩ k N rfl rfl (zAQ (List.replicate k r++List.replicate (N-k) (0,0))) 29 HRD.out (zAQ (List.replicate m r)) m hm hcl ?_ ?_ ?_ w.heap.size w HBD.out (by rw[HG.out];exact yAC _) ?_
   ·intro j v hv
    have hj:j<m*2:=by rw[<- hcl];exact(yBX.1 hv).1
    have e1:((⟨g,0,none⟩:Addr).add j)=⟨g,j,none⟩:=by unfold Addr.add;split<;>simp_all
    have hb0:=HRD.out
    unfold zBO at hb0
    rw[e1]
    have hsame:(zAQ (List.replicate k r++List.replicate (N-k) (0,0)))[j]? =(zAQ (List.replicate m r))[j]? :=by
     have e2:List.replicate k r++List.replicate (N-k) ((0:Int),(0:Int))=List.replicate m r++(List.replicate (k-m) r++List.replicate (N-k) (0,0)):=by
      have:m<=k:=by rw[hm];exact Nat.min_le_left _ _
      rw[<- yBZ,List.replicate_append_replicate,show m+(k-m)=k by omega]
     rw[e2,zFD,yAO (by omega)]
    simp[World.cell?,hb0,hsame,hv]
   ·rw[hcl,zBU,yAN,yEJ,yEJ];omega
   ·intro u hu
    obtain⟨x,_,hx⟩:=List.mem_flatMap.1 hu
    exact rat_one x u hx
   ·intro w6 h6 hb6
    have HR6:=hid (show zBO w6 g (List.replicate (k+m) r++List.replicate (N-(k+m)) (0,0))from by
     unfold zBO
     rw[h6.out]
     have e:=zPE (List.replicate k r++List.replicate (N-k) ((0:Int),(0:Int))) [] k (List.replicate m r) (by simp;omega)
     rw[e]
     congr 3
     rw[List.take_append_of_le_length (by simp),yAL (by simp),yEJ,List.drop_append,List.drop_of_length_le (by simp),yDL,List.drop_replicate,yEJ,<- yBZ,List.replicate_append_replicate]
     rw[show N-k-(k+m-k)=N-(k+m)by omega])
    have HB6:=hid hb6
    have i5:(k:Int)+(m:Int)<=N:=by omega
    clear h6 hb6 hm hcl
    go_wp2
    refine⟨fun _=>trivial,?_⟩
    refine AnyT.nx (i:=8) rfl ?_
    go_wp2
    refine⟨fun _=>trivial,?_⟩
    refine AnyT.nx (i:=9) rfl ?_
    go_wp2
    refine⟨fun _=>trivial,?_⟩
    refine AnyT.done (by kernel_rfl) ?_ _
    go_wp2
    refine⟨⟨k+m,by omega,by omega,by go_num,HR6.out,HB6.out⟩,by simp[intOf];omega⟩
  ·obtain rfl:k=N:=by omega
   have hni:¬(k:Int)<(k:Int):=by omega
   rw[yCF]at hrk
   simp only[yGI,yBC]at hrk
   go_wp2
   go_ret
   exact⟨g,rfl,by rw[HG.out];exact yAC _,hrk,hbk⟩
end
section
def zQQ(n:Nat)(J:List Int)(v:List Rt):List Rt:=(List.range J.length).foldl (fun out i=>out.set (J[i]?.getD 0).toNat (v[i]?.getD (0,0))) (List.replicate n (0,1))
def zDZ(n:Nat)(J:List Int)(v:List Rt)(k:Nat):List Rt:=(List.range k).foldl (fun out i=>out.set (J[i]?.getD 0).toNat (v[i]?.getD (0,0))) (List.replicate n (0,1))
theorem zJB(n:Nat)(J:List Int)(v:List Rt)(k:Nat):zDZ n J v (k+1)=(zDZ n J v k).set (J[k]?.getD 0).toNat (v[k]?.getD (0,0)):=by
 unfold zDZ;rw[yBQ,yCO];rfl
theorem spreadTo_len(n:Nat)(J:List Int)(v:List Rt)(k:Nat):(zDZ n J v k).length=n:=by
 unfold zDZ;rw[zEV (fun i=>v[i]?.getD (0,0)) (fun i=>(J[i]?.getD 0).toNat)];simp
end
section
open Go.RowKit
theorem spread_c(w:World)(W:Nat)(hW1:1<=W)(hW:W<=1000)(a a2:Option Addr)(k cap k2 cap2:Nat)(l:List Int)(v:List Rt)(hk:l.length=k)(hk2:v.length=k2)(hle:k<=k2)(hm:k<=1000)(H:zAH w a l)(H2:zCB w a2 v)
 (hb:∀i,i<k->0<=l[i]?.getD 0∧l[i]?.getD 0<(W:Int)):
 Calls Tryz.prog 162 #[.int .i64 W,.slice a k cap,.slice a2 k2 cap2] w fun e w'=>∃g,e=.returned (.slice (some ⟨g,0,none⟩) W W)∧w.heap.size<=g∧zBO w' g (zQQ W l v)∧Below w.heap.size w w':=by
 obtain⟨wa,hwa⟩:=exq (w.alloc (.cells #[.int .i64 0,.int .i64 1] 29))
 have hba:Below w.heap.size w wa:=by rw[hwa];exact(Below.refl _ _).alloc (yAC _) _
 have hr1:zCB wa (some ⟨w.heap.size,0,none⟩) [(0,1)]:=by
  intro j hj
  match j,hj with
  |0,_=>exact⟨_,0,rfl,by rw[hwa];simp,by rw[hwa,World.cell?_alloc_at _ _ _ _ rfl];rfl,by rw[hwa,World.cell?_alloc_at _ _ _ _ rfl];rfl⟩
 have HRP:=hid (repeat_c wa (some ⟨w.heap.size,0,none⟩) 1 (0,1) hr1 W hW1 hW)
 have HBA:=hid hba
 have HI:=hid (fun(X:World) (hX:Below w.heap.size w X)=>H.below hX)
 have HV:=hid (fun(X:World) (hX:Below w.heap.size w X)=>H2.below hX)
 have HBD:=hid hb
 have HK:=hid hk
 have HK2:=hid hk2
 have HT0:=hid (show zDZ W l v 0=List.replicate W (0,1)from rfl)
 have HTS:=hid (fun t=>zJB W l v t)
 have HTL:=hid (fun t=>spreadTo_len W l v t)
 have HTE:=hid (show zDZ W l v k=zQQ W l v by unfold zDZ zQQ;rw[hk])
 clear hba hr1 H H2 hb hk hk2
 go_enter Tryz.func162,Tryz.ntmps162
 go_wp2_with fail
 rw[<- hwa]
 clear hwa
 go_wp2_with (go_at_call 186;refine HRP.out.mono ?_;rintro e w1 ⟨g,rfl,hg,hrb,hb1⟩;refine Stop.of ?_)
 refine Stop.go ?_
 have HG:=hid (show w.heap.size<=g from yAF HBA.out.size hg)
 have HRB:=hid hrb
 have HB1:=hid (zAA HBA.out hb1)
 clear hg hrb hb1 HRP HBA
 go_wp2
 go_loopw [16] (fun i wr=>∃t:Nat,t<=k∧i=.int .i64 t∧zBO wr g (zDZ W l v t)∧Below w.heap.size w wr) (fun i _=>k-(intOf i).toNat)
 case atStart=>exact⟨0,yAK _,rfl,by rw[HT0.out];exact HRB.out,HB1.out⟩
 case round=>
  obtain⟨t,ht,rfl,hrt,hbt⟩:=hrel
  by_cases htl:t<k
  ·have htk:t<l.length:=by rw[HK.out];exact htl
   have htv:t<v.length:=by rw[HK2.out];omega
   obtain⟨b5,o5,rfl,hb5,hc5⟩:=(HI.out wr hbt) t htk
   obtain⟨b6,o6,rfl,hb6,h60,h61⟩:=(HV.out wr hbt) t htv
   obtain⟨d1,d2⟩:=HBD.out t htl
   have hts:=HTS.out t
   rw[yAA htv,yBA]at hts
   obtain⟨⟨r1,r2⟩,hr⟩:∃r,r=v[t]'htv:=⟨_,rfl⟩
   rw[<- hr]at h60 h61 hts
   obtain⟨p,hp⟩:∃p:Nat,(p:Int)=l[t]?.getD 0:=⟨(l[t]?.getD 0).toNat,by omega⟩
   rw[<- hp]at hc5 d1 d2 hts
   rw[yEG]at hts
   have hpl:p<(zDZ W l v t).length:=by rw[HTL.out];omega
   obtain⟨c0,c1,cf⟩:=hrt.cells hpl
   have f0:=cf (p*2)
   have f1:=cf (p*2+1)
   have hset:=hrt.set hpl r1 r2
   rw[<- hts]at hset
   have HSET:=hid hset
   have HBE:=hid (show Below w.heap.size w ((wr.setCell ⟨g,p*2,none⟩ (.int .i64 r1)).setCell ⟨g,p*2+1,none⟩ (.int .i64 r2))from zAE (zAE hbt HG.out _ _) HG.out _ _)
   have hgl:=hrt.lt
   have i1:(t:Int)<(k:Int):=by omega
   have i2:(t:Int)<(k2:Int):=by omega
   have i3:(p:Int)<(W:Int):=d2
   obtain⟨z0,k0⟩:∃z,wr.cell? ⟨g,p*2,none⟩=some (.int .i64 z):=⟨_,c0⟩
   obtain⟨z1,k1⟩:∃z,wr.cell? ⟨g,p*2+1,none⟩=some (.int .i64 z):=⟨_,c1⟩
   clear hset hts hr hp hrt hbt cf d1 d2 c0 c1 hpl
   go_wp2
   refine⟨⟨t+1,by omega,by go_num,HSET.out,HBE.out⟩,by simp[intOf];omega⟩
  ·obtain rfl:t=k:=by omega
   have hni:¬(t:Int)<(t:Int):=by omega
   rw[HTE.out]at hrt
   go_wp2
   go_ret
   exact⟨g,rfl,HG.out,hrt,hbt⟩
end
section
open Go.RowKit
def HdF(W:World)(us ur:Value)(f:FitT):Prop:=∃pa pn pc va vn vc,us=.slice pa pn pc∧ur=.slice va vn vc∧f.1.length=pn∧pn<=maxLen∧zAH W pa f.1∧f.2.length=vn∧vn<=maxLen∧zCB W va f.2
theorem HdF.below{W W':World}{us ur:Value}{f:FitT}(h:HdF W us ur f)(hb:Below W.heap.size W W'):HdF W' us ur f:=by
 obtain⟨pa,pn,pc,va,vn,vc,e1,e2,h1,h2,h3,h4,h5,h6⟩:=h
 exact⟨pa,pn,pc,va,vn,vc,e1,e2,h1,h2,h3.below hb,h4,h5,h6.below hb⟩
theorem zGI.hd{W:World}{a:Option Addr}{T:List FitT}(h:zGI W a T){j:Nat}(hj:j<T.length):
 ∃b off us ur,a=some ⟨b,off,none⟩∧b<W.heap.size∧W.cell? ⟨b,off+j*2,none⟩=some us∧W.cell? ⟨b,off+j*2+1,none⟩=some ur∧HdF W us ur T[j]:=by
 obtain⟨b,off,pa,pn,pc,va,vn,vc,e,hb,h0,h1,h2,h3,h4,h5,h6,h7⟩:=h j hj
 exact⟨b,off,_,_,e,hb,h0,h1,pa,pn,pc,va,vn,vc,rfl,rfl,h2,h3,h4,h5,h6,h7⟩
def TabF(X W:World)(v:Value)(T:List FitT):Prop:=
 ∃xs,W.ownsRow X.heap.size 73 2 v T.length xs∧∀j (hj:j<T.length),∃us ur,xs[j*2]? =some us∧xs[j*2+1]? =some ur∧HdF X us ur T[j]
theorem TabF.nil(X W:World):TabF X W (.slice none 0 0) []:=⟨[],World.ownsRow_nil _ _ _ _,fun j hj=>by simp at hj⟩
theorem TabF.below{X W W':World}{v:Value}{T:List FitT}(h:TabF X W v T)(hb:Below W.heap.size W W'):TabF X W' v T:=by
 obtain⟨xs,h1,h2⟩:=h
 exact⟨xs,zBJ h1 hb,h2⟩
theorem TabF.slice{X W:World}{v:Value}{T:List FitT}(h:TabF X W v T):∃a c,v=.slice a T.length c:=by
 obtain⟨xs,ho,_⟩:=h;exact zAC ho
theorem TabF.reads{X W:World}{v:Value}{T:List FitT}(h:TabF X W v T)(hb:Below X.heap.size X W):∃a cap,v=.slice a T.length cap∧T.length<=maxLen∧zGI W a T:=by
 obtain⟨xs,ho,he⟩:=h
 rcases ho.2 with⟨rfl,h0⟩|⟨g,cap,cur,rfl,hbg,hgg,hnc,hcm,hsz,htk⟩
 ·exact⟨none,0,by rw[h0],by rw[h0];decide,fun j hj=>by omega⟩
 ·refine⟨_,cap,rfl,by omega,fun j hj=>?_⟩
  obtain⟨us,ur,h1,h2,pa,pn,pc,va,vn,vc,rfl,rfl,k1,k2,k3,k4,k5,k6⟩:=he j hj
  have hc:∀i,i<T.length*2->W.cell? ⟨g,i,none⟩=xs[i]? :=fun i hi=>
   World.ownsRow.cellAt (w:=W) (base:=X.heap.size) (e:=73) (size:=2) (g:=g) (n:=T.length) (cap:=cap) (xs:=xs) ⟨ho.1,.inr ⟨g,cap,cur,rfl,hbg,hgg,hnc,hcm,hsz,htk⟩⟩ i hi
  exact⟨g,0,pa,pn,pc,va,vn,vc,rfl,(yAB.1 hgg).1,by rw[yAW,hc _ (by omega)];exact h1,by rw[yAW,hc _ (by omega)];exact h2,k1,k2,k3.below hb,k4,k5,k6.below hb⟩
theorem TabF.snoc{X w2:World}{v' us ur:Value}{T:List FitT}{t:FitT}{xs:List Value}{q:Nat}(hq:T.length=q)
 (hl:xs.length=q*2)(he:∀j (hj:j<T.length),∃us ur,xs[j*2]? =some us∧xs[j*2+1]? =some ur∧HdF X us ur T[j])(h1:HdF X us ur t)
 (ho':w2.ownsRow X.heap.size 73 2 v' (q+1) (xs++[us,ur])):TabF X w2 v' (T++[t]):=by
 subst hq
 refine⟨xs++[us,ur],by rw[yAN];exact ho',fun j hj=>?_⟩
 by_cases e:j<T.length
 ·obtain⟨us',ur',k1,k2,k3⟩:=he j e
  refine⟨us',ur',by rw[yAO (by omega)];exact k1,by rw[yAO (by omega)];exact k2,?_⟩
  rw[yBO e];exact k3
 ·have:j=T.length:=by simp at hj;omega
  subst this
  refine⟨us,ur,by rw[yAQ (by omega),hl];simp,by rw[yAQ (by omega),hl,show T.length*2+1-T.length*2=1 by omega];rfl,?_⟩
  simp only[yBL (yAC _),yCF,yBG];exact h1
end
section
def sumP(v:Nat->Int)(x:List Rt):Nat->Int×Int
 |0=>(0,1)
 |k+1=>((sumP v x k).1*(zAB x k).2+(sumP v x k).2*((zAB x k).1*v k),(sumP v x k).2*(zAB x k).2)
theorem sumP_bnd{v:Nat->Int}{x:List Rt}(h1:∀k,(v k).natAbs<=1000000)(hx:ValB x):
 ∀k:Nat,(sumP v x k).1.natAbs<=k*10000000000000000*400 ^ k∧1<=(sumP v x k).2∧(sumP v x k).2.natAbs<=400 ^ k
 |0=>by simp[sumP]
 |k+1=>by
  obtain⟨i1,i2,i3⟩:=sumP_bnd h1 hx k
  obtain⟨x1,x2,x3,x4⟩:=hx k
  have hv:=h1 k
  have hp:400 ^ (k+1)=400 ^ k*400:=Nat.pow_succ ..
  have hmono:400 ^ k<=400 ^ (k+1):=by rw[hp];omega
  rw[sumP]
  simp only[]
  generalize sumP v x k=s at i1 i2 i3
  generalize zAB x k=q at x1 x2 x3 x4
  generalize v k=u at hv
  obtain⟨s1,s2⟩:=s
  obtain⟨q1,q2⟩:=q
  simp only[]at*
  obtain⟨p,hpp⟩:=exq (400 ^ k)
  have hP:400 ^ (k+1)=p*400:=by rw[hpp];exact hp
  rw[<- hpp]at i1 i3
  rw[hP]
  clear hp hmono hP hpp
  obtain⟨T,hT⟩:=exq (k*p)
  have i1':s1.natAbs<=T*10000000000000000:=by rw[hT,<- Nat.mul_right_comm];exact i1
  have g1:(k+1)*10000000000000000*(p*400)=(T*400+p*400)*10000000000000000:=by
   rw[Nat.mul_right_comm,Nat.add_mul k 1,Nat.one_mul,<- Nat.mul_assoc k p 400,<- hT]
  rw[g1]
  clear i1 g1
  have e1:(s1*q2).natAbs<=T*10000000000000000*400:=by
   rw[yAR];exact yAV i1' (by omega)
  have e2:(s2*(q1*u)).natAbs<=p*10000000000000000:=by
   rw[yAR]
   refine yAV i3 ?_
   rw[yAR]
   exact yAF (yAV (show q1.natAbs<=10000000000 by omega) hv) (by decide)
  have e3:(s1*q2+s2*(q1*u)).natAbs<=(s1*q2).natAbs+(s2*(q1*u)).natAbs:=Int.natAbs_add_le _ _
  refine⟨by omega,?_,?_⟩
  ·have:=yBN (show 0<s2 by omega) (show 0<q2 by omega);omega
  ·rw[yAR];exact yAV i3 (by omega)
theorem sumP_bnd6{v:Nat->Int}{x:List Rt}(h1:∀k,(v k).natAbs<=1000000)(hx:ValB x){k:Nat}(h6:k<=6):
 (sumP v x k).1.natAbs<=245760000000000000000000000000000∧1<=(sumP v x k).2∧(sumP v x k).2.natAbs<=4096000000000000:=by
 obtain⟨i1,i2,i3⟩:=sumP_bnd h1 hx k
 have hp:400 ^ k<=400 ^ 6:=yCG (by omega) h6
 have e:(400:Nat) ^ 6=4096000000000000:=by decide
 rw[e]at hp
 refine⟨?_,i2,yAF i3 hp⟩
 have:k*10000000000000000*400 ^ k<=6*10000000000000000*4096000000000000:=yAV (yFB _ h6) hp
 omega
def colP(M:Mask)(q:Nat)(i:Nat):Int:=vec (M[i]?.getD []) q
def zLL(M:Mask)(x:List Rt)(q:Nat):Bool:=decide ((sumP (colP M q) x M.length).1<=(sumP (colP M q) x M.length).2∧ -(sumP (colP M q) x M.length).2<=(sumP (colP M q) x M.length).1)
def zOU(M:Mask)(x:List Rt):Bool:=(List.range (zAD M)).all fun q=>zLL M x q
theorem seesB_iff{M:Mask}{x:List Rt}:zOU M x=true↔∀q,q<zAD M->zLL M x q=true:=by
 unfold zOU;rw[yAT];simp
end
section
theorem eq_floor{n d m e:Int}(hd:0<d)(he:0<e)(h:n*e=m*d):n/d=m/e:=by
 have h1:n/d=(n*e)/(d*e):=(Int.mul_ediv_mul_of_pos_left n d he).symm
 have h2:m/e=(m*d)/(e*d):=(Int.mul_ediv_mul_of_pos_left m e hd).symm
 rw[h1,h2,h,yBV d e]
theorem eq_rest{n d m e:Int}(h:n/d=m/e):n*e=m*d↔d*(m%e)=e*(n%d):=by
 have h1:=yEZ n d
 have h2:=yEZ m e
 obtain⟨q,hq⟩:=exq (n/d)
 obtain⟨a,ha⟩:=exq (n%d)
 obtain⟨b,hb⟩:=exq (m%e)
 rw[<- h,<- hq,<- hb]at h2
 rw[<- hq,<- ha]at h1
 rw[<- ha,<- hb,<- h1,<- h2]
 constructor<;>intro h<;>grind
structure EqS (A:Prop) (n d m e:Int):Prop where
 n0:0<=n
 d0:0<=d
 m0:0<=m
 e0:0<=e
 nd:d=0->0<n
 me:e=0->0<m
 iff:A↔n*e=m*d
theorem EqS.step{A:Prop}{n d m e:Int}(h:EqS A n d m e)(hd:0<d)(he:0<e)(hq:n/d=m/e):EqS A d (n%d) e (m%e):=by
 have h1:=yDX n (show d≠0 by omega)
 have h2:=yDX m (show e≠0 by omega)
 exact⟨by omega,h1,by omega,h2,fun _=>hd,fun _=>he,h.iff.trans (eq_rest hq)⟩
theorem EqS.part{A:Prop}{n d m e:Int}(h:EqS A n d m e)(hd:0<d)(he:0<e)(hq:n/d≠m/e):¬A:=fun ha=>hq (eq_floor hd he (h.iff.1 ha))
theorem EqS.done{A:Prop}{n d m e:Int}(h:EqS A n d m e)(hz:d=0∨e=0):A↔d=e:=by
 rw[h.iff]
 rcases hz with rfl|rfl
 ·have:=h.nd rfl
  constructor
  ·intro hh
   have hh2:n*e=0:=by rw[hh];simp
   rcases yDW.1 hh2 with h3|h3
   ·omega
   ·exact h3.symm
  ·rintro rfl;simp
 ·have:=h.me rfl
  constructor
  ·intro hh
   have hh2:m*d=0:=by rw[<- hh];simp
   rcases yDW.1 hh2 with h3|h3
   ·omega
   ·exact h3
  ·rintro rfl;simp
end
end Go.Proofs.YtlffndehhhpgjaaGreat
