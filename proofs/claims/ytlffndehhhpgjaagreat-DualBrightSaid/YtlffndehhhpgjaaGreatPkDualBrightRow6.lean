/- Walks and plain laws for DualBrightRow, part 6. -/
import Derived.Sort.QuietIn
import Derived.Sort.LoopGhostIn
import Derived.Sort.CutIn
import Derived.Test.YtlffndehhhpgjaaGreatPkDualBrightRow5
namespace Go.Proofs.YtlffndehhhpgjaaGreat
set_option linter.unusedVariables false
set_option linter.unusedSimpArgs false
set_option maxRecDepth 100000
set_option maxHeartbeats 4000000
open _root_.List renaming getElem?_eq_getElem → yAA, getElem_mem → yAH, take_succ_eq_append_getElem → yAI, take_of_length_le → yAL, length_append → yAN, getElem?_append_left → yAO, getElem?_append_right → yAQ, length_map → yAS, all_eq_true → yAT, length_take → yAU, getElem?_eq_none → yAY, getElem?_map → yAZ, length_cons → yBB, append_nil → yBC, drop_eq_getElem_cons → yBD, getElem_cons_zero → yBG, pairwise_iff_getElem → yBI, mem_of_getElem? → yBM, range_succ → yBQ, getElem?_eq_some_iff → yBX, append_assoc → yBZ, set_cons_zero → yCA, mem_singleton → yCB, length_nil → yCD, filter_append → yCK, getElem?_take_of_lt → yCN, filterMap_append → yCS, take_append_drop → yCY, set_append_right → yCZ, length_singleton → yDB, flatMap_append → yDD, cons_append → yDG, nil_append → yDL, append_toArray → yDR, not_all_eq_any_not → yDU, drop_eq_nil_of_le → yEC, size_toArray → yED, push_toArray → yEF, length_filter_le → yEK, length_filterMap_le → yEL, mem_of_mem_take → yEP, mem_or_eq_of_mem_set → yFA, filterMap_nil → yFN
open _root_.Nat renaming le_refl → yAC, le_trans → yAF, lt_of_lt_of_le → yAJ, zero_le → yAK, lt_or_ge → yAP, mul_le_mul → yAV, zero_add → yAW, one_pos → yBH, sub_self → yCF, pow_le_pow_right → yCG, add_zero → yDS, min_eq_left → yEI, lt_succ_self → yEM, mul_le_mul_right → yFB, le_of_lt → yFH, lt_succ_of_lt → yFR, le_of_eq → yGM
open _root_.Int renaming natAbs_mul → yAR, toNat_natCast → yEG, eq_ofNat_of_zero_le → yES, gcd_pos_of_ne_zero_left → yEV, le_of_dvd → yFV, natAbs_tdiv → yGX
open _root_.Array renaming getElem?_eq_some_iff → yAB, replicate_zero → yDI, replicate_succ → yDJ
section
theorem zMQ(R:List (List Int))(p:Nat):∀(J:List Nat) (k:Nat) (t:Int),zDD R (J++[p]) k t=
 (zDD R J k t).tdiv (Int.gcd (zDD R J k t) (vec (R[k+J.length]?.getD []) p):Nat)*vec (R[k+J.length]?.getD []) p
 | [],k,t=>rfl
 |q::J,k,t=>by
  show zDD R (J++[p]) (k+1) _=_
  rw[zMQ R p J (k+1),show k+1+J.length=k+(q::J).length by simp;omega]
  rfl
def zFH(R:List (List Int))(J:List Nat)(n t:Nat):List (List Int):=((List.range t).filter (fun f=>!J.contains f)).map (kerR R J n)
theorem kernRTo_in{R:List (List Int)}{J:List Nat}{n t:Nat}(h:J.contains t=true):zFH R J n (t+1)=zFH R J n t:=by
 unfold zFH;rw[yBQ,yCK];simp at h;simp[h]
theorem kernRTo_out{R:List (List Int)}{J:List Nat}{n t:Nat}(h:J.contains t=false):zFH R J n (t+1)=zFH R J n t++[kerR R J n t]:=by
 unfold zFH;rw[yBQ,yCK];simp at h;simp[h]
theorem kernRTo_all(R:List (List Int))(J:List Nat)(n:Nat):zFH R J n n=zNR R J n:=rfl
theorem kernRTo_le(R:List (List Int))(J:List Nat)(n t:Nat):(zFH R J n t).length<=t:=by
 unfold zFH;rw[yAS]
 have:=yEK (fun f=>!J.contains f) (List.range t)
 rwa [List.length_range]at this
theorem rawR_len(R:List (List Int))(J:List Nat)(n f:Nat):(rawR R J n f).length=n:=by unfold rawR;rw[zDG];simp
theorem kerR_len(R:List (List Int))(J:List Nat)(n f:Nat):(kerR R J n f).length=n:=by unfold kerR;rw[zFR,zCM,rawR_len]
theorem fillF_all{P:Int->Prop}{v:Nat->Nat->Int}(hv:∀k p,P (v k p)):∀(J:List Nat) (k:Nat) (h:List Int),(∀x∈h,P x)->∀x∈zEM v J k h,P x
 | [],_,h,hh,x,hx=>hh x hx
 |p::J,k,h,hh,x,hx=>fillF_all hv J (k+1) _ (fun y hy=>by
   rcases yFA hy with h1|rfl
   ·exact hh y h1
   ·exact hv _ _) x hx
structure RefK (R:List (List Int)) (J:List Nat) (n:Nat):Prop where
 len:R.length=J.length
 le6:J.length<=6
 wid:∀r∈R,r.length=n
 bnd:∀i c:Nat,-720<=vec (R[i]?.getD []) c∧vec (R[i]?.getD []) c<=720
 pv:∀(i:Nat) (hi:i<J.length),0<vec (R[i]?.getD []) J[i]∧J[i]<n
 times:∀t:Nat,t<=J.length->0<zDD R (J.take t) 0 1∧zDD R (J.take t) 0 1<=720
theorem refK{C:List (List Int)}{n:Nat}(h:MaskOk C n):RefK (rRed C n).done (rRed C n).piv n∧zII (RP C n) (JP C n) n=zNR (rRed C n).done (rRed C n).piv n:=by
 have hone:∀r∈C,∀c,c<n-> -1<=vec r c∧vec r c<=1:=fun r hr c _=>h.one r hr c
 obtain⟨d,d1,d2,hk⟩:=zNH (n:=n) h.wid h.le6 hone
 obtain⟨e1,e2⟩:=zMC h.wid hone (yAC n) (fun q _ _ c h1 h2=>by omega)
 have hKl:(JP C n).length<=(RP C n).length:=by rw[zEJ];exact(h.inv n).K_le
 refine⟨?_,zIV h.wid h.le6 hone⟩
 rw[e2,<- e1]
 have hget:∀i,i<(JP C n).length->((RP C n).take (JP C n).length)[i]?.getD []=(RP C n)[i]?.getD []:=fun i hi=>by rw[yCN hi]
 have hpiv:∀i,i<(JP C n).length->0<vec (((RP C n).take (JP C n).length)[i]?.getD []) (jf (JP C n) i)∧vec (((RP C n).take (JP C n).length)[i]?.getD []) (jf (JP C n) i)∣(d:Int):=fun i hi=>by
  rw[hget i hi];exact hk.piv i hi
 refine⟨by rw[yAU];exact yEI hKl,yAF (h.inv n).K_le h.le6,fun r hr=>(h.bnd (yAC n) r (yEP hr)).1,fun i c=>?_,fun i hi=>?_,fun t ht=>?_⟩
 ·rcases yAP i (JP C n).length with hi|hi
  ·rw[hget i hi];exact h.rp_le i c
  ·rw[yAY (by rw[yAU];exact yAF (Nat.min_le_left _ _) hi)];simp[vec]
 ·have:=h.pivx hi
  rw[hget i hi]
  exact⟨this.1,this.2.2⟩
 ·obtain⟨a,b,_,_⟩:=zHB (R:=(RP C n).take (JP C n).length) (d:=d) ((JP C n).take t) 0 1 (by decide) (Int.one_dvd _) (fun i hi=>by
   rw[yAU]at hi
   have h1:i<(JP C n).length:=by omega
   have:=hpiv i h1
   rw[yAW]
   have e:jf ((JP C n).take t) i=jf (JP C n) i:=by unfold jf;rw[yCN (by omega)]
   rw[e];exact this)
  have h9:=yFV (by omega) b
  exact⟨a,Int.le_trans h9 (by omega)⟩
theorem valR_le{R:List (List Int)}{J:List Nat}{n:Nat}(h:RefK R J n){f:Nat}{t:Int}(h0:0<t)(h1:t<=720)(k p:Nat): -518400<=valR R f t k p∧valR R f t k p<=518400:=by
 unfold valR
 have h2:=h.bnd k f
 have h3:(t.tdiv (vec (R[k]?.getD []) p)).natAbs<=720:=by
  rw[yGX]
  exact yAF (Nat.div_le_self _ _) (by omega)
 have h4:(-(vec (R[k]?.getD []) f)*t.tdiv (vec (R[k]?.getD []) p)).natAbs<=720*720:=by
  rw[yAR]
  exact yAV (by omega) h3
 omega
theorem rawR_le{R:List (List Int)}{J:List Nat}{n:Nat}(h:RefK R J n)(f:Nat):∀x∈rawR R J n f,-518400<=x∧x<=518400:=by
 obtain⟨h0,h1⟩:=h.times J.length (yAC _)
 rw[List.take_length]at h0 h1
 refine fillF_all (P:=fun x=> -518400<=x∧x<=518400) (fun k p=>valR_le h h0 h1 k p) J 0 _ fun x hx=>?_
 rcases yFA hx with h2|rfl
 ·rw[(List.mem_replicate.1 h2).2];decide
 ·omega
theorem refB{C:List (List Int)}{n:Nat}(h:MaskOk C n):∀t,t<=n->∀r∈(rRed C t).done++(rRed C t).left,r.length=n∧∀x∈r,-(720:Int)<=x∧x<=720:=by
 intro t ht
 have:=rRed_le (n:=n) (Y:=1) h.wid h.le6 (fun r hr c _=>h.one r hr c) (fun r hr=>zFE (P:=fun x=> -((1:Nat):Int)<=x∧x<=((1:Nat):Int)) fun c=>by have:=h.one r hr c;omega) ht
 intro r hr
 obtain⟨h1,h2⟩:=this r hr
 exact⟨h1,fun x hx=>by have:=h2 x hx;omega⟩
theorem zHX{C:List (List Int)}{n:Nat}(h:∀r∈C,r.length=n)(t:Nat):(rRed C t).done.length+(rRed C t).left.length=C.length∧(rRed C t).piv.length=(rRed C t).done.length:=
 ⟨rRed_len C h t,(zEU C h t).2.symm⟩
end
section
open Go.RowKit
theorem zPL{W:World}{a:Option Addr}{R:List (List Int)}(h:zAM W a R){t n:Nat}(ht:t<R.length)(hw:∀r∈R,r.length=n)(hn:1<=n):
 ∃b off rb ro rc,a=some ⟨b,off,none⟩∧W.cell? ⟨b,off+t,none⟩=some (.slice (some ⟨rb,ro,none⟩) n rc)∧∀c,c<n->W.cell? ⟨rb,ro+c,none⟩=some (.int .i64 (vec (R[t]?.getD []) c)):=by
 obtain⟨b,off,ra,n',rc,e,hlt,h0,hn',hm,hi⟩:=h t ht
 have hl:=hw _ (yAH ht)
 obtain⟨rb,ro,rfl,_,_⟩:=hi 0 (by omega)
 refine⟨b,off,rb,ro,rc,e,?_,fun c hc=>?_⟩
 ·rw[h0,<- hn',hl]
 ·obtain⟨rb',ro',e,_,hx⟩:=hi c (by omega)
  cases e
  rw[hx,yAA ht];rfl
theorem zKA(J:List Nat):(zIJ J).length=J.length:=by simp[zIJ]
theorem zON{J:List Nat}{t:Nat}(ht:t<J.length):(zIJ J)[t]?.getD 0=((J[t]:Nat):Int):=by unfold zIJ;rw[yAZ,yAA ht];rfl
theorem free_take{J:List Nat}{t:Nat}(ht:t<J.length)(f:Nat):(!(J.take (t+1)).contains f)=((!(J.take t).contains f)&&decide (((J[t]:Nat):Int)≠(f:Int))):=by
 rw[yAI ht]
 have e:∀(l:List Nat) (y:Nat),(l++[y]).contains f=(l.contains f||decide (f=y)):=by
  intro l y
  rw[Bool.eq_iff_iff];simp
 rw[e,Bool.not_or]
 congr 1
 by_cases h:f=J[t]
 ·simp[h]
 ·have:¬(((J[t]:Nat):Int)=(f:Int)):=by omega
  simp[h,this]
theorem r3kernel_c(w:World)(a:Option Addr)(n cap:Nat)(C:List (List Int))(hn:C.length=n)(hn1:1<=n)(k:Nat)(hk1:1<=k)(hk9:k<=1000)(hC:MaskOk C k)(H:zAM w a C):
 Calls Tryz.prog 183 #[.slice a n cap] w fun e w'=>∃v base,e=.returned v∧w.heap.size<=base∧TabS w' base v (zII (RP C k) (JP C k) k)∧Below w.heap.size w w':=by
 have hn6:n<=6:=by rw[<- hn];exact hC.le6
 have hB:=refB hC
 have HRd:=hid (zNB w a n cap C k hn (by omega) H hC.wid hk9 (fun r hr=>zFE (P:=fun x=> -((4611686018427387904:Nat):Int)<=x∧x<=((4611686018427387904:Nat):Int)) fun c=>by have:=hC.one r hr c;omega)
  (fun t ht r hr=>⟨(hB t ht r hr).1,fun x hx=>by have:=(hB t ht r hr).2 x hx;omega⟩) (fun t=>by rw[(zHX hC.wid t).1,hn]) (fun t=>(zHX hC.wid t).2))
 obtain⟨hRK,hkern⟩:=refK hC
 rw[hkern]
 obtain⟨b0,off0,ra0,rn0,rc0,rfl,hbs0,hq0,hrn0,hrm0,hri0⟩:=H 0 (by omega)
 obtain rfl:rn0=k:=by rw[<- hrn0];exact hC.wid _ (yAH _)
 have hraw:=rawR_le hRK
 obtain⟨R,hR⟩:=exq ((rRed C rn0).done)
 obtain⟨J,hJ⟩:=exq ((rRed C rn0).piv)
 rw[<- hR,<- hJ]at HRd hRK hraw⊢
 obtain⟨K,hK⟩:=exq (J.length)
 rw[<- hK]at HRd
 have hRl:R.length=K:=by rw[hRK.len,hK]
 have hK6:K<=6:=by rw[hK];exact hRK.le6
 have HKJ:=hid hK
 have HRK:=hid hRK
 have HRAW:=hid hraw
 have HRL:=hid hRl
 have hc0:w.cell? ⟨b0,off0,none⟩=some (.slice ra0 rn0 rc0):=hq0
 have hni:(0:Int)<(n:Int):=by omega
 clear hB hn H hkern hR hJ hK hRK hraw hRl hrn0 hrm0 hri0 hC hq0
 go_enter Tryz.func183,Tryz.ntmps183
 go_wp2_with (go_at_call 225;refine HRd.out.mono ?_;rintro e w1 ⟨vD,vP,rfl,hT1,hP1,hb1⟩;refine Stop.of ?_)
 refine Stop.go ?_
 clear HRd
 obtain⟨pa,pc,rfl,hPI,hPm⟩:=zCK hP1 (by rw[zKA,HKJ.out])
 obtain⟨da,dc,rfl⟩:∃da dc,vD=.slice da K dc:=by
  obtain⟨_,ho1,_⟩:=hT1
  obtain⟨a',c',e⟩:=zAC ho1
  exact⟨a',c',by rw[e,HRL.out]⟩
 have hRA:=hT1.rows HRL.out (fun r hr=>by rw[HRK.out.wid r hr];unfold maxLen;omega)
 have hc1:w1.cell? ⟨b0,off0,none⟩=some (.slice ra0 rn0 rc0):=(hb1.cell (p:=⟨b0,off0,none⟩) hbs0).trans hc0
 have hb0s:b0<w1.heap.size:=yAJ hbs0 hb1.size
 have HPI:=hid hPI
 have HRA:=hid hRA
 have HBW:=hid hb1
 have hsz:w.heap.size<=w1.heap.size:=hb1.size
 clear hPI hRA hP1 hT1 hb1 hc0 hbs0
 go_wp2
 go_loopw [5,25] (fun v i wr=>∃f:Nat,f<=rn0∧i=.int .i64 f∧TabS wr w1.heap.size v (zFH R J rn0 f)∧Below w1.heap.size w1 wr) (fun _ i _=>rn0-(intOf i).toNat)
 case atStart=>exact⟨0,yAK _,rfl,TabS.nil _ _,Below.refl _ _⟩
 case round=>
  obtain⟨f,hf,rfl,ho,hbk⟩:=hrel
  obtain⟨wo,hwo⟩:=exq (wr)
  subst hwo
  by_cases hlt:f<rn0
  ·have HO:=hid ho
   have HBK:=hid hbk
   have HJO:=hid (HPI.out.below hbk)
   have HRO:=hid (HRA.out.below hbk)
   have hcO:wo.cell? ⟨b0,off0,none⟩=some (.slice ra0 rn0 rc0):=(hbk.cell (p:=⟨b0,off0,none⟩) hb0s).trans hc1
   have hbOs:b0<wo.heap.size:=yAJ hb0s hbk.size
   clear ho hbk
   go_wp2
   go_loopw [7,30] (fun v i wr=>∃t:Nat,t<=K∧i=.int .i64 t∧v=.bool (!(J.take t).contains f)∧wr=wo) (fun _ i _=>K-(intOf i).toNat)
   case atStart=>exact⟨0,yAK _,rfl,rfl,rfl⟩
   case round=>
    obtain⟨t,ht,rfl,rfl,hww⟩:=hrel
    subst hww
    by_cases hltt:t<K
    ·have htJ:t<J.length:=by rw[<- HKJ.out];exact hltt
     obtain⟨jb,jo,rfl,_,hjc⟩:=HJO.out t (by rw[zKA];exact htJ)
     rw[zON htJ]at hjc
     have hft:=free_take htJ f
     obtain⟨p,hp⟩:=exq (J[t])
     rw[<- hp]at hjc hft
     obtain⟨fr,hfr⟩:=exq (!(J.take t).contains f)
     rw[<- hfr]at hft⊢
     have HFT:=hid hft
     clear hp hfr hft htJ
     cases fr
     ·go_wp2
      exact⟨⟨t+1,by omega,by go_num,by rw[HFT.out];rfl,by first|trivial|rfl⟩,by simp[intOf];omega⟩
     ·by_cases hpf:(p:Int)=(f:Int)
      ·have hd:((p:Int) !=(f:Int))=false:=by simp[hpf]
       have HPF:=hid hpf
       clear hpf
       go_wp2
       exact⟨⟨t+1,by omega,by go_num,by rw[HFT.out,HPF.out];simp,by first|trivial|rfl⟩,by simp[intOf];omega⟩
      ·have hd:((p:Int) !=(f:Int))=true:=by simpa using hpf
       have HPF:=hid hpf
       clear hpf
       go_wp2
       exact⟨⟨t+1,by omega,by go_num,by rw[HFT.out];simp[HPF.out],by first|trivial|rfl⟩,by simp[intOf];omega⟩
    ·obtain rfl:K=t:=by omega
     have e:J.take K=J:=yAL (by rw[HKJ.out];exact yAC _)
     rw[e]
     cases hfJ:J.contains f
     ·have HFN:=hid hfJ
      rw[show(!false)=true from rfl]
      clear e hfJ hltt
      obtain⟨wo,hwo⟩:=exq (wr)
      subst hwo
      go_wp2
      go_loopw [10,45] (fun T i wr=>∃t:Nat,t<=K∧i=.int .i64 t∧T=.int .i64 (zDD R (J.take t) 0 1)∧Below wo.heap.size wo wr) (fun _ i _=>K-(intOf i).toNat)
      case atStart=>exact⟨0,yAK _,rfl,rfl,Below.refl _ _⟩
      case round=>
       obtain⟨t,ht,rfl,rfl,hbt⟩:=hrel
       by_cases hltt:t<K
       ·have htJ:t<J.length:=by rw[<- HKJ.out];exact hltt
        obtain⟨jb,jo,rfl,_,hjc⟩:=(HJO.out.below hbt) t (by rw[zKA];exact htJ)
        obtain⟨db,dof,rb,ro,rc,rfl,hh,hcs⟩:=zPL (HRO.out.below hbt) (t:=t) (by rw[HRL.out];exact hltt) HRK.out.wid hk1
        have hp0:=HRK.out.pv t htJ
        have hsn:=zMQ R J[t] (J.take t) 0 1
        rw[<- yAI htJ,yAU,yAW,show min t J.length=t by omega]at hsn
        obtain⟨hT0,hT1⟩:=HRK.out.times t (by rw[<- HKJ.out];exact ht)
        obtain⟨hT2,hT3⟩:=HRK.out.times (t+1) htJ
        rw[zON htJ]at hjc
        have hx2:=(HRK.out.bnd t J[t]).2
        obtain⟨p,hp⟩:=exq (J[t])
        rw[<- hp]at hp0 hsn hjc hx2
        have c1:=hcs p hp0.2
        obtain⟨x,hx⟩:=exq (vec (R[t]?.getD []) p)
        rw[<- hx]at c1 hp0 hsn hx2
        obtain⟨hx1,hpk⟩:=hp0
        obtain⟨T,hT⟩:=exq (zDD R (J.take t) 0 1)
        rw[<- hT]at hT0 hT1 hsn⊢
        rw[hsn]at hT2 hT3
        have HD1:=hid (fun(W:World)=>zGN W T x (by omega) (by omega))
        have hg0:0<((Int.gcd T x:Nat):Int):=by
         have:0<Int.gcd T x:=yEV _ (by omega)
         omega
        obtain⟨g,hg⟩:∃g:Int,g=(Int.gcd T x:Nat):=⟨_,rfl⟩
        rw[<- hg]at HD1 hg0 hsn hT2 hT3
        have HSN:=hid hsn
        have hgz:¬(g=0):=by omega
        have htd:=zFQ (show 1<=g by omega) (show-(720:Int)<=T∧T<=720 by omega)
        have hw1:IntKind.i64.wrap (T.tdiv g)=T.tdiv g:=IntWalk.i64_in _ (by omega)
        have hw2:IntKind.i64.wrap (T.tdiv g*x)=T.tdiv g*x:=IntWalk.i64_in _ (by omega)
        have i1:(0:Int)<=(t:Int):=by omega
        have i2:(t:Int)<(K:Int):=by omega
        have i3:(0:Int)<=(p:Int):=by omega
        have i4:(p:Int)<(rn0:Int):=by omega
        have HBT:=hid hbt
        clear hp hx hT hsn hg hcs htJ hbt
        go_wp2
        go_quiet ((go_at_call 211;exact Calls.quiet_of (HD1.out _)))
        go_wp2
        exact⟨⟨t+1,by omega,by go_num,by rw[HSN.out],zAI HBT.out _⟩,by simp[intOf];omega⟩
       ·obtain rfl:K=t:=by omega
        have e:J.take K=J:=yAL (by rw[HKJ.out];exact yAC _)
        obtain⟨hT0,hT1⟩:=HRK.out.times K (by rw[<- HKJ.out];exact yAC _)
        rw[e]at hT0 hT1⊢
        obtain⟨T,hT⟩:=exq (zDD R J 0 1)
        rw[<- hT]at hT0 hT1⊢
        have HTT:=hid hT
        have HB5:=hid hbt
        obtain⟨w5,hw5⟩:=exq (wr)
        subst hw5
        have hmk:∀w,(Instr.makeSlice 24 (.int .i64 (rn0:Int)) (.int .i64 (rn0:Int))).run Tryz.prog w=.ok (.slice (some ⟨w.heap.size,0,none⟩) rn0 rn0) (w.alloc (.cells (madeCells #[.int .i64 0] rn0) 3)):=
         fun w=>run_make_row' 24 3 (.int .i64 0) 8 Tryz.underlying24 zDN rfl .i64 .i64 rn0 (by omega) (by omega) w
        obtain⟨h0,hh0⟩:=exq ((List.replicate rn0 (0:Int)).set f T)
        have hh0l:h0.length=rn0:=by rw[hh0];simp
        obtain⟨w7,hw7⟩:=exq (w5.alloc (.cells ((madeCells #[.int .i64 0] rn0).setIfInBounds f (.int .i64 T)) 3))
        have hr7:zBD w7 w5.heap.size h0:=by rw[hw7,hh0];exact zMT w5 rn0 f T
        have hb7:Below w5.heap.size w5 w7:=by rw[hw7];exact(Below.refl _ _).alloc (yAC _) _
        have hs7:w7.heap.size=w5.heap.size+1:=by rw[hw7];simp
        have hc5:w5.cell? ⟨b0,off0,none⟩=some (.slice ra0 rn0 rc0):=(hbt.cell (p:=⟨b0,off0,none⟩) hbOs).trans hcO
        have i5:(0:Int)<=(f:Int):=by omega
        have i6:(f:Int)<(rn0:Int):=by omega
        have HSET6:=hid hr7
        have HH0:=hid hh0
        have HW7:=hid hw7
        have HB7:=hid hb7
        have HL0:=hid hh0l
        clear e hT hbt hh0 hr7 hb7 hw7 hh0l
        have hmsz:(madeCells #[Value.int .i64 0] rn0).size=rn0:=by rw[size_madeCells]
        go_wp2
        rw[<- HW7.out]
        clear hmk hmsz
        go_loopw [81] (fun i wr=>∃s:Nat,s<=K∧i=.int .i64 s∧zBD wr w5.heap.size (zEM (valR R f T) (J.take s) 0 h0)∧Keep (fun q=>q≠w5.heap.size) w7 wr) (fun i _=>K-(intOf i).toNat)
        case atStart=>exact⟨0,yAK _,rfl,HSET6.out,Keep.refl _ _⟩
        case round=>
         obtain⟨s,hs,rfl,hr,hkp⟩:=hrel
         have hb57:Below w5.heap.size w5 wr:=hkp.below HB7.out (by omega) (fun q hq=>by omega)
         have hbo:=zAA HB5.out hb57
         by_cases hlts:s<K
         ·have htJ:s<J.length:=by rw[<- HKJ.out];exact hlts
          obtain⟨jb,jo,rfl,_,hjc⟩:=(HJO.out.below hbo) s (by rw[zKA];exact htJ)
          obtain⟨db,dof,rb,ro,rc,rfl,hh,hcs⟩:=zPL (HRO.out.below hbo) (t:=s) (by rw[HRL.out];exact hlts) HRK.out.wid hk1
          have hp0:=HRK.out.pv s htJ
          have hsn:=zKY (valR R f T) J[s] (J.take s) 0 h0
          rw[<- yAI htJ,yAU,yAW,show min s J.length=s by omega]at hsn
          rw[zON htJ]at hjc
          obtain⟨p,hp⟩:=exq (J[s])
          rw[<- hp]at hp0 hsn hjc
          have c1:=hcs p hp0.2
          have c2:=hcs f hlt
          have hxb:=HRK.out.bnd s f
          have hval:valR R f T s p= -(vec (R[s]?.getD []) f)*T.tdiv (vec (R[s]?.getD []) p):=rfl
          have hvb:=valR_le HRK.out (f:=f) hT0 hT1 s p
          obtain⟨x,hx⟩:=exq (vec (R[s]?.getD []) p)
          obtain⟨y,hy⟩:=exq (vec (R[s]?.getD []) f)
          rw[<- hx]at c1 hp0 hval
          rw[<- hy]at c2 hxb hval
          rw[hval]at hsn hvb
          obtain⟨hx1,hpk⟩:=hp0
          have hlenF:(zEM (valR R f T) (J.take s) 0 h0).length=rn0:=by rw[zDG,HL0.out]
          have c3:=hr.cell (j:=p) (by rw[hlenF];exact hpk)
          obtain⟨z3,hz3⟩:=exq ((zEM (valR R f T) (J.take s) 0 h0)[p]?.getD 0)
          rw[<- hz3]at c3
          have c4:=hr.frozen p
          have HSET:=hid (fun(X:World) (hX:X.heap[w5.heap.size]? =wr.heap[w5.heap.size]?) v=>(hr.keep hX).set p (by rw[hlenF];exact hpk) v)
          have hgs:=hr.lt
          have HSN:=hid hsn
          have HKP:=hid hkp
          have td:=zFQ (show 1<=x by omega) (show-(720:Int)<=T∧T<=720 by omega)
          have wn:IntKind.i64.wrap (-y)= -y:=IntWalk.i64_in _ (by omega)
          have wq:IntKind.i64.wrap (T.tdiv x)=T.tdiv x:=IntWalk.i64_in _ (by omega)
          have wm:IntKind.i64.wrap (-y*T.tdiv x)= -y*T.tdiv x:=IntWalk.i64_in _ (by omega)
          have hxz:¬(x=0):=by omega
          have i1:(0:Int)<=(s:Int):=by omega
          have i2:(s:Int)<(K:Int):=by omega
          have i3:(0:Int)<=(p:Int):=by omega
          have i4:(p:Int)<(rn0:Int):=by omega
          clear hp hx hy hsn hcs htJ hval hlenF hz3 hr hkp hb57 hbo td hvb
          go_wp2
          go_still_tail 21,(by kernel_rfl)
          change wpList _ _ _ _ _ wr.drew
          go_wp2
          refine⟨⟨s+1,by omega,by go_num,?_,(HKP.out.drewN 1).trans (Keep.set wr.drew w5.heap.size p _)⟩,by simp[intOf];omega⟩
          rw[HSN.out]
          exact HSET.out wr.drew rfl _
         ·obtain rfl:K=s:=by omega
          have e:J.take K=J:=yAL (by rw[HKJ.out];exact yAC _)
          rw[e]at hr
          have hraw:zEM (valR R f T) J 0 h0=rawR R J rn0 f:=by unfold rawR;rw[HH0.out,HTT.out]
          rw[hraw]at hr
          have hbR:BndL 4611686018427387904 (rawR R J rn0 f):=fun x hx=>by
           have:=HRAW.out f x hx
           omega
          have HSH:=hid (zGM wr (some ⟨w5.heap.size,0,none⟩) rn0 rn0 (rawR R J rn0 f) (rawR_len R J rn0 f) hk9 hr.ints hbR)
          have HBO:=hid hbo
          clear e hraw hr hbR hkp hb57 hbo
          go_wp2_with (go_at_call 226;refine HSH.out.mono ?_;rintro e w8 ⟨v8,rfl,ho8,hb8⟩;refine Stop.of ?_)
          refine Stop.go ?_
          have hbo8:Below wo.heap.size wo w8:=zAA HBO.out hb8
          obtain⟨X,hX⟩:=exq (kerR R J rn0 f)
          have hXs:zDV (rawR R J rn0 f)=X:=hX.symm
          have hXl:X.length=rn0:=by rw[hX,kerR_len]
          rw[hXs]at ho8
          obtain⟨xa,xc,rfl⟩:=zAC ho8
          have hrs:=zHW ho8 hXl
          have hkt:=kernRTo_out (R:=R) (n:=rn0) HFN.out
          rw[<- hX]at hkt
          have hle:=kernRTo_le R J rn0 f
          obtain⟨Kt,hKt⟩:=exq (zFH R J rn0 f)
          have HO':=HO.out
          rw[<- hKt]at hkt hle HO'
          obtain⟨vs,ho1,ho2⟩:=HO'
          obtain⟨m,hm⟩:=exq (Kt.length)
          have ho1':=ho1
          rw[<- hm]at ho1' hle
          obtain⟨va,vc,rfl⟩:=zAC ho1'
          have hb2a:Below wo.heap.size wo (w8.alloc (.cells #[.slice xa rn0 xc] 24)):=hbo8.alloc hbo8.size _
          have M1:=hid (show m+1<=maxLen by unfold maxLen;omega)
          have M2:=hid (show(m+1)*24<=140737488355328 by omega)
          have M3:=hid (yAF HBK.out.size hb2a.size)
          have HO2':=hid (zBJ ho1' hb2a)
          have HO1:=hid ho1
          have HO2:=hid ho2
          have HRS:=hid (hrs.below ((Below.refl _ w8).alloc (yAC _) (.cells #[.slice xa rn0 xc] 24)))
          have HB2':=hid hb2a
          have HML:=hid hm
          have HKT:=hid hkt
          clear hb2a ho1 ho1' ho2 hX hXs hXl hkt hle hKt hm hbo8 ho8 hb8 hrs
          go_wp2_with (at_builtin;refine zAN _ rfl (.tmp 108) (.tmp 111) 22 rfl w1.heap.size 24 (.slice none 0 0) 1 24 Tryz.underlying22 zEP rfl yBH (.slice va m vc) m vs rfl HO2'.out (some ⟨w8.heap.size,0,none⟩) 1 1 [.slice xa rn0 xc] rfl rfl zBS (zBC w8 _ _) (zBL _ _ _) M1.out M2.out M3.out ?_;refine Stop.of ?_)
          refine Stop.go ?_
          intro a5 c5 w9 own5 g5
          have hsn9:TabS w9 w1.heap.size (.slice a5 (m+1) c5) (Kt++[X]):=TabS.snoc HO1.out HO2.out HB2'.out HRS.out g5 (by rw[<- HML.out];exact own5)
          have hB9:Below w1.heap.size w1 w9:=(HBK.out.trans (HB2'.out.mono HBK.out.size)).grown g5 M3.out (fun q hq=>(HO2'.out.lt q hq).1)
          rw[<- HKT.out]at hsn9
          go_wp2
          exact⟨⟨f+1,by omega,by go_num,hsn9,hB9⟩,by simp[intOf];omega⟩
     ·have hkt:=kernRTo_in (R:=R) (n:=rn0) hfJ
      have HKT:=hid hkt
      clear e hfJ hkt
      go_wp2
      exact⟨⟨f+1,by omega,by go_num,by rw[HKT.out];exact HO.out,HBK.out⟩,by simp[intOf];omega⟩
  ·obtain rfl:rn0=f:=by omega
   rw[kernRTo_all]at ho
   have HO:=hid ho
   have HB:=hid (HBW.out.trans (hbk.mono hsz))
   clear ho hbk
   go_wp2
   go_ret
   exact⟨_,w1.heap.size,rfl,hsz,HO.out,HB.out⟩
end
section
open Go.RowKit
theorem zNE(n lo hi:Int)(w:World):Calls Tryz.prog 88 #[.int .i64 n,.int .i64 lo,.int .i64 hi] w fun e w'=>e=.returned (.bool (inB n lo hi))∧w=w':=by
 by_cases h1:lo<=n<;>by_cases h2:n<=hi
 all_goals
  go_enter Tryz.func88,Tryz.ntmps88
  go_wp2
  go_ret
  exact⟨zAP (by simp[inB,h1,h2]),rfl⟩
theorem beyond1(w:World)(b:Nat)(m:Int)(hm:0<=m∧m<=1000000000)(hc:w.cell? ⟨b,0,none⟩=some (.int .i64 m))(hb:b<w.heap.size):
 zPB Tryz.prog 167 #[.pointer (some ⟨b,0,none⟩)] w (fun n=>!(inB n (-m) m)):=by
 intro x W hW
 have hc':W.cell? ⟨b,0,none⟩=some (.int .i64 m):=(hW.cell (p:=⟨b,0,none⟩) hb).trans hc
 obtain⟨z,hz⟩:=exq (-m)
 have hw:IntKind.i64.wrap (-m)=z:=by rw[hz];exact IntWalk.i64_in _ (by omega)
 rw[<- hz]
 obtain⟨B,hB⟩:=exq (inB x z m)
 have HP:=hid (zNE x z m W)
 rw[<- hB]at HP
 simp only[<- hB]
 clear hB hc hz
 show Calls Tryz.prog 167 #[.int .i64 x,.pointer (some ⟨b,0,none⟩)] W _
 go_enter Tryz.func167,Tryz.ntmps167
 go_wp2_with (go_at_call 88;refine HP.out.mono ?_;rintro e w1 ⟨rfl,rfl⟩)
 go_ret
 exact⟨rfl,Below.refl _ _⟩
def milB(l:List Int):Bool:=l.all (fun n=>inB n (-1000000) 1000000)
end
section
open Go.RowKit
theorem any_mil(h:List Int):h.any (fun n=>!(inB n (-1000000) 1000000))=!milB h:=by unfold milB;rw[yDU]
theorem beyond_c(w:World)(m:Int):Calls Tryz.prog 106 #[.int .i64 m] w fun e w'=>∃b,e=.returned (.func (.func 167) #[] #[.pointer (some ⟨b,0,none⟩)])∧w'.cell? ⟨b,0,none⟩=some (.int .i64 m)∧b<w'.heap.size∧Below w.heap.size w w':=by
 go_enter Tryz.func106,Tryz.ntmps106
 go_wp2
 go_ret
 exact⟨w.heap.size,rfl,by rw[World.cell?_alloc_at _ _ _ _ rfl];rfl,by simp,(Below.refl _ _).alloc (yAC _) _⟩
end
section
open Go.RowKit
theorem mil_le{h:List Int}(e:milB h=true):∀x∈h,-1000000<=x∧x<=1000000:=by
 intro x hx
 have:=yAT.1 e x hx
 unfold inB at this
 simp only[Bool.and_eq_true,decide_eq_true_eq]at this
 omega
end
section
theorem zQO:∀(m:Nat) (a:Int) (j:Nat),j<m->(upF a m)[j]? =some (a+j)
 |0,_,_,h=>by omega
 |m+1,a,0,_=>by simp[upF]
 |m+1,a,j+1,h=>by
  show(upF (a+1) m)[j]? =_
  rw[zQO m (a+1) j (by omega)];congr 1;omega
theorem upF_snoc:∀(m:Nat) (a:Int),upF a (m+1)=upF a m++[a+m]
 |0,a=>by simp[upF]
 |m+1,a=>by
  show a::upF (a+1) (m+1)=a::(upF (a+1) m++_)
  rw[upF_snoc m (a+1)]
  congr 3;omega
theorem upF_range(m:Nat):∀a:Nat,upF (a:Int) m=(List.range' a m).map (fun j:Nat=>(j:Int)):=by
 induction m with
 |zero=>intro a;rfl
 |succ m ih=>
  intro a
  show(a:Int)::upF ((a:Int)+1) m=_
  have:=ih (a+1)
  rw[show((a:Int)+1)=((a+1:Nat):Int)by omega,this]
  simp[List.range'_succ]
def zOQ(n k:Nat)(x:List Int)(m:Nat):Prop:=∀j,m<=j->j<k->x[j]? =some ((n:Int)-k+j)
theorem tail_le{n k m:Nat}{x:List Int}(hl:x.length=k)(hp:x.Pairwise (· < ·))(hb:∀y∈x,y<(n:Int))(hm:m<k)(ht:zOQ n k x (m+1)):x[m]?.getD 0<=(n:Int)-k+m:=by
 have hml:m<x.length:=by omega
 rw[yAA hml]
 by_cases e:m+1=k
 ·have:=hb _ (yAH hml);simp;omega
 ·have h1:=ht (m+1) (yAC _) (by omega)
  have hml1:m+1<x.length:=by omega
  rw[yAA hml1]at h1
  have h2:=yBI.1 hp m (m+1) hml hml1 (by omega)
  have h3:=Option.some.inj h1
  simp;omega
theorem tail_step{n k m:Nat}{x:List Int}(hl:x.length=k)(hm:m<k)(ht:zOQ n k x (m+1))(he:x[m]?.getD 0=(n:Int)-k+m):zOQ n k x m:=by
 intro j h1 h2
 by_cases e:j=m
 ·subst e
  rw[yAA (by omega)]at he⊢
  rw[<- he];rfl
 ·exact ht j (by omega) h2
theorem tail_drop{n k m:Nat}{x:List Int}(hl:x.length=k)(hk:k<=n)(hm:m<=k)(ht:zOQ n k x m):x.drop m=upF ((n:Int)-(k-m:Nat)) (k-m):=by
 apply List.ext_getElem?
 intro j
 rw[List.getElem?_drop]
 rcases yAP j (k-m)with h|h
 ·rw[ht (m+j) (by omega) (by omega),zQO _ _ _ h];congr 1;omega
 ·rw[yAY (by omega),yAY (by rw[zGJ];omega)]
theorem next_none{n k:Nat}{x:List Int}(hl:x.length=k)(hk:k<=n)(ht:zOQ n k x 0):zIT n x=none:=by
 have:=tail_drop hl hk (yAK _) ht
 rw[List.drop_zero,Nat.sub_zero]at this
 rw[this]
 exact zRD k _ (by omega)
def zJT(x:List Int)(m j:Nat):List Int:=x.take m++upF (x[m]?.getD 0+1) (j-m)++x.drop j
theorem fillS_len{x:List Int}{m j:Nat}(h1:m<=j)(h2:j<=x.length):(zJT x m j).length=x.length:=by
 unfold zJT;simp[zGJ];omega
theorem fillS_get{x:List Int}{m j:Nat}(h1:m<j)(h2:j<=x.length):(zJT x m j)[j-1]?.getD 0=x[m]?.getD 0+(j-m:Nat):=by
 unfold zJT
 rw[yAO (by simp[zGJ];omega),yAQ (by simp;omega)]
 simp only[yAU]
 rw[show j-1-min m x.length=j-m-1 by omega,zQO _ _ _ (by omega)]
 simp;omega
theorem fillS_set{x:List Int}{m j:Nat}(h1:m<=j)(h2:j<x.length):(zJT x m j).set j (x[m]?.getD 0+(j+1-m:Nat))=zJT x m (j+1):=by
 unfold zJT
 have hl:(x.take m++upF (x[m]?.getD 0+1) (j-m)).length=j:=by simp[zGJ];omega
 rw[yCZ _ _ (by omega),hl,yCF,yBD h2,yCA,show j+1-m=(j-m)+1 by omega,upF_snoc]
 simp
 omega
theorem fillS_start{x:List Int}{m:Nat}(hm:m<x.length):x.set m (x[m]?.getD 0+1)=zJT x m (m+1):=by
 have:=fillS_set (x:=x) (m:=m) (j:=m) (yAC _) hm
 rw[show m+1-m=1 by omega]at this
 unfold zJT at this⊢
 rw[<- this]
 simp[upF]
theorem fillS_done{n k m:Nat}{x:List Int}(hl:x.length=k)(hk:k<=n)(hm:m<k)(ht:zOQ n k x (m+1))(hlt:x[m]?.getD 0<(n:Int)-k+m):zIT n x=some (zJT x m k):=by
 have h1:=tail_drop hl hk (by omega) ht
 have hml:m<x.length:=by omega
 have hx:x=x.take m++x[m]::upF ((n:Int)-(k-(m+1):Nat)) (k-(m+1)):=by
  rw[<- h1,<- yBD hml,yCY]
 have hd:x[m]?.getD 0=x[m]:=by rw[yAA hml];rfl
 rw[hd]at hlt
 have h2:=nextS_at (n:=(n:Int)) (m:=k-(m+1)) (d:=x[m]) (by omega) (x.take m)
 rw[<- hx]at h2
 rw[h2]
 unfold zJT
 rw[hd,yEC (by omega),yBC,show k-(m+1)+1=k-m by omega]
theorem zLH{α:Type}{l:List α}{i:Nat}{x:α}(h:l[i]? =some x):l.take i++[x]=l.take (i+1):=by
 obtain⟨hi,rfl⟩:=yBX.1 h
 rw[yAI hi]
theorem take_all_at{α:Type}{l:List α}{i:Nat}{x:α}(h:l[i]? =some x)(hn:l[i+1]? =none):l.take (i+1)=l:=by
 exact yAL (List.getElem?_eq_none_iff.1 hn)
end
section
open Go.RowKit
attribute [local go_sem] Oper.semAt_some
theorem allI_upF(n:Nat):allI n=upF 0 n:=by
 have:=upF_range n 0
 rw[show((0:Nat):Int)=0 from rfl]at this
 rw[this]
 unfold allI
 rw[List.range_eq_range']
theorem iter_sets(w0:World)(n k kb nb:Nat)(hn:n<=1000)(hk:k<=1000)(hk1:1<=k)(hkb:kb<w0.heap.size)(hnb:nb<w0.heap.size)(hf0:w0.cell? ⟨kb,0,none⟩=some (.int .i64 k))(hf1:w0.cell? ⟨nb,0,none⟩=some (.int .i64 n)):
 IterInts Tryz.prog 3 222 #[.pointer (some ⟨kb,0,none⟩),.pointer (some ⟨nb,0,none⟩)] (comb n k 0) (fun q=>q=kb∨q=nb) w0:=by
 obtain⟨xs,hxs⟩:=exq (comb n k 0)
 have hfacts:∀x∈xs,x.length=k∧x.Pairwise (· < ·)∧(∀y∈x,y<(n:Int))∧∀j:Nat,(0:Int)<=x[j]?.getD 0:=fun x hx=>by
  rw[hxs]at hx
  obtain⟨h1,h2⟩:=zJX n k 0 x hx
  exact⟨zCG n k 0 x hx,h1,fun y hy=>by have:=(h2 y hy).2;omega,fun j=>by
   rcases yAP j x.length with h|h
   ·rw[yAA h];have:=(h2 _ (yAH h)).1;simp;omega
   ·rw[yAY h];simp⟩
 have hchn:Chn n none xs:=by rw[hxs];have:=zRO n k 0;rwa [Int.zero_add]at this
 have hhead:k<=n->xs[0]? =some (upF 0 k):=fun hkn=>by
  rw[hxs]
  obtain⟨t,ht⟩:=zOH n k 0 hkn
  rw[ht];rfl
 have hnil:¬k<=n->xs=[]:=fun h=>by rw[hxs];exact zFL n k 0 (by omega)
 rw[<- hxs]
 have HF:=hid hfacts
 have HC:=hid hchn
 have HH:=hid hhead
 have HNL:=hid hnil
 clear hfacts hchn hhead hnil hxs
 intro l J Jx W hb hJ hY h0
 have hg0:W.cell? ⟨kb,0,none⟩=some (.int .i64 k):=(hb.cell (p:=⟨kb,0,none⟩) hkb).trans hf0
 have hg1:W.cell? ⟨nb,0,none⟩=some (.int .i64 n):=(hb.cell (p:=⟨nb,0,none⟩) hnb).trans hf1
 have hkW:kb<W.heap.size:=yAJ hkb hb.size
 have hnW:nb<W.heap.size:=yAJ hnb hb.size
 have HJ:=hid hJ
 have HY:=hid hY
 have H0:=hid h0
 have HALL:=hid (all_c W k hk)
 clear hJ hY h0 hf0 hf1 hb
 refine callsIn_of_wp Tryz.func222 rfl trivial ?_ rfl
 simp only[Tryz.ntmps222,yED,yBB,yCD,Nat.reduceAdd,Nat.reduceSub,yDJ,yDI,yEF,yDR,yDL,yDG]
 gi_wp2_with (refine⟨trivial,rfl,?_⟩;gi_at_call 194;refine(callsIn_wide.2 HALL.out).mono ?_;rintro e w1 ⟨v,rfl,ho1,hb1⟩;refine Stop.of ?_)
 refine Stop.go ?_
 obtain⟨it,cap,rfl,hit,hr1⟩:=zJC ho1 (zRW k) hk1
 rw[allI_upF]at hr1
 have hJ1:J it [] w1:=HJ.out it _ _ _ hit (H0.out it hit) (Keep.of_below hb1)
 have hkb1:=hb1.block kb hkW
 have hnb1:=hb1.block nb hnW
 have hs1:=hb1.size
 clear ho1 HALL
 by_cases hkn:k<=n
 ·have hhead:=HH.out hkn
  have hit1:=hr1.lt
  have HIT:=hid hit
  clear hit
  gi_wp2
  gi_loopg [] xs.length (fun(g:Nat) wr=>∃(i:Nat) (x:List Int),g=xs.length-i∧xs[i]? =some x∧J it (xs.take i) wr∧zBD wr it x∧wr.heap[kb]? =W.heap[kb]? ∧wr.heap[nb]? =W.heap[nb]? ∧W.heap.size<=wr.heap.size)
  case atStart=>exact⟨0,upF 0 k,by omega,hhead,by rw[List.take_zero];exact hJ1,hr1,hkb1,hnb1,hs1⟩
  case round=>
   obtain⟨i,x,rfl,hx,hJk,hrk,hfk,hfn,hsz⟩:=hrel
   have hxm:x∈xs:=yBM hx
   obtain⟨hxl,hxp,hxb,hxn⟩:=HF.out x hxm
   have hil:i<xs.length:=(yBX.1 hx).1
   obtain⟨sp,hrow⟩:=hrk
   have hyk:=HY.out it (xs.take i) x cap sp wr (by rw[zLH hx];exact List.take_prefix _ _) HIT.out (yAB.1 hrow).1 hJk hrow
   rw[hxl,zLH hx]at hyk
   have hw0:wr.cell? ⟨kb,0,none⟩=some (.int .i64 k):=(World.cell?_of_block (a:=⟨kb,0,none⟩) hfk).trans hg0
   have hw1:wr.cell? ⟨nb,0,none⟩=some (.int .i64 n):=(World.cell?_of_block (a:=⟨nb,0,none⟩) hfn).trans hg1
   have hkn':(k:Int)<=(n:Int):=by omega
   have HRK:=hid (show zBD wr it x from⟨sp,hrow⟩)
   have HFK:=hid hfk
   have HFN:=hid hfn
   have HX:=hid hx
   have HXL:=hid hxl
   have HXP:=hid hxp
   have HXB:=hid hxb
   have HXN:=hid hxn
   clear hrow hJk hfk hfn hx hxm hxl hxp hxb hxn hhead hJ1 hr1 hkb1 hnb1
   obtain⟨fn,tmps,assign,body,hy,hR⟩:=hyk
   gi_wp2
   refine⟨rfl,hR.mono ?_⟩
   clear hR hy
   rintro e W3 (⟨rfl,hJ3,hs3,hk3⟩|⟨rfl,hJx⟩)
   ·have hr3:zBD W3 it x:=HRK.out.keep (hk3 it (Or.inr rfl))
    have hfk3:W3.heap[kb]? =W.heap[kb]? :=(hk3 kb (Or.inl (Or.inl rfl))).trans HFK.out
    have hfn3:W3.heap[nb]? =W.heap[nb]? :=(hk3 nb (Or.inl (Or.inr rfl))).trans HFN.out
    have hg30:W3.cell? ⟨kb,0,none⟩=some (.int .i64 k):=(World.cell?_of_block (a:=⟨kb,0,none⟩) hfk3).trans hg0
    have hg31:W3.cell? ⟨nb,0,none⟩=some (.int .i64 n):=(World.cell?_of_block (a:=⟨nb,0,none⟩) hfn3).trans hg1
    have HR3:=hid hr3
    have HK3:=hid hfk3
    have HN3:=hid hfn3
    have HJ3:=hid hJ3
    clear hr3 hfk3 hfn3 hJ3 hk3 hw0 hw1 HRK HFK HFN
    gi_wp2
    gi_loopw [5] (fun i5 wi=>∃i0:Int,i5=.int .i64 i0∧ -1<=i0∧i0<k∧zOQ n k x (i0+1).toNat∧Below W3.heap.size W3 wi) (fun i5 _=>(intOf i5+1).toNat)
    case atStart=>
     refine⟨k-1,by first|rfl| (congr 1),by omega,by omega,?_,Below.refl _ _⟩
     intro j h1 h2
     omega
    case round=>
     obtain⟨i0,rfl,hi1,hi2,hT,hbi⟩:=hrel
     have hgk:wr.cell? ⟨kb,0,none⟩=some (.int .i64 k):=(hbi.cell (p:=⟨kb,0,none⟩) (by show kb<_;omega)).trans hg30
     have hgn:wr.cell? ⟨nb,0,none⟩=some (.int .i64 n):=(hbi.cell (p:=⟨nb,0,none⟩) (by show nb<_;omega)).trans hg31
     have hri:=HR3.out.keep (hbi.block it HR3.out.lt)
     have HBI:=hid hbi
     clear hbi
     by_cases h0:0<=i0
     ·obtain⟨m,rfl⟩:=yES h0
      have e1:((m:Int)+1).toNat=m+1:=by omega
      rw[e1]at hT
      have hmk:m<k:=by omega
      have hle:=tail_le HXL.out HXP.out HXB.out hmk hT
      have hc:wr.cell? ⟨it,m,none⟩=some (.int .i64 (x[m]?.getD 0)):=hri.cell (by rw[HXL.out];exact hmk)
      have hw1:wrap64 ((n:Int)-k)=(n:Int)-k:=by unfold wrap64;omega
      have hw2:wrap64 ((n:Int)-k+m)=(n:Int)-k+m:=by unfold wrap64;omega
      have hz:=hri.frozen m
      have hlt3:=hri.lt
      have HRI:=hid hri
      clear hri
      have hm0:(0:Int)<=(m:Int):=by omega
      have hm1:(m:Int)<(k:Int):=by omega
      have HT:=hid hT
      by_cases he:x[m]?.getD 0=(n:Int)-k+m
      ·have hst:=tail_step HXL.out hmk hT he
       have hbe:(x[m]?.getD 0==(n:Int)-k+m)=true:=by simpa using he
       have HST:=hid hst
       clear he hst hT hle
       gi_wp2
       gi_quiet (fail)
       gi_wp2
       refine⟨⟨(m:Int)-1,rfl,by omega,by omega,?_,zAI HBI.out nq⟩,?_⟩
       ·rw[show((m:Int)-1+1).toNat=m by omega];exact HST.out
       ·simp[intOf]
      ·have hbe:(x[m]?.getD 0==(n:Int)-k+m)=false:=by simpa using he
       have hlt:x[m]?.getD 0<(n:Int)-k+m:=by omega
       have HLT:=hid hlt
       clear he hT hle hlt
       gi_wp2
       gi_quiet (fail)
       have HRQ:=hid (show zBD (wr.drewN nq) it x from HRI.out)
       have HBQ:=hid (zAI HBI.out nq)
       have hgk2:(wr.drewN nq).cell? ⟨kb,0,none⟩=some (.int .i64 k):=hgk
       have hc2:(wr.drewN nq).cell? ⟨it,m,none⟩=some (.int .i64 (x[m]?.getD 0)):=hc
       have hz2:(wr.drewN nq).frozen? ⟨it,m,none⟩=false:=hz
       have hlt2:it<(wr.drewN nq).heap.size:=hlt3
       clear HRI HBI hgk hgn hc hz hlt3
       generalize wr.drewN nq=w4 at HRQ HBQ hgk2 hc2 hz2 hlt2⊢
       have hv:wrap64 (x[m]?.getD 0+1)=x[m]?.getD 0+1:=by
        have h1:=HLT.out
        have h2:(0:Int)<=x[m]?.getD 0:=HXN.out m
        unfold wrap64;omega
       have HV:=hid hv
       clear hv
       have HKS:=hid (HRQ.out.set m (by rw[HXL.out];exact hmk) (x[m]?.getD 0+1))
       rw[fillS_start (by rw[HXL.out];exact hmk)]at HKS
       have HW9:=hid (show wrap64 ((m:Int)+1)=((m+1:Nat):Int)by unfold wrap64;omega)
       gi_wp2
       gi_loopw [6] (fun v wj=>∃j:Nat,m+1<=j∧j<=k∧v=.int .i64 j∧zBD wj it (zJT x m j)∧Keep (fun q=>q≠it) w4 wj) (fun v _=>k-(intOf v).toNat)
       case atStart=>exact⟨m+1,yAC _,by omega,by rw[show((m:Int)+1)=((m+1:Nat):Int)by omega],by have h:=HKS.out;with_reducible (first| (rw[HV.out];exact h)|exact h),Keep.set _ _ _ _⟩
       case round=>
        obtain⟨j,hj1,hj2,rfl,hrj,hkj⟩:=hrel
        have hgj:wr.cell? ⟨kb,0,none⟩=some (.int .i64 k):=hkj.cell hgk2 (by have:=HIT.out;omega)
        by_cases hjk:j<k
        ·have hlen:=fillS_len (m:=m) (j:=j) (x:=x) (by omega) (show j<=x.length by rw[HXL.out];omega)
         have hget:=fillS_get (x:=x) (show m<j by omega) (by rw[HXL.out];omega)
         have hset:=fillS_set (x:=x) (show m<=j by omega) (by rw[HXL.out];omega)
         have hcj:=hrj.cell (j:=j-1) (by rw[hlen,HXL.out];omega)
         rw[hget]at hcj
         have hzj:=hrj.frozen j
         have hcj2:=hrj.cell (j:=j) (by rw[hlen,HXL.out];exact hjk)
         obtain⟨u,hu⟩:=exq ((zJT x m j)[j]?.getD 0)
         rw[<- hu]at hcj2
         have hltj:=hrj.lt
         have hwj:wrap64 ((j:Int)-1)=((j-1:Nat):Int):=by unfold wrap64;omega
         have hwv:wrap64 (x[m]?.getD 0+((j-m:Nat):Int)+1)=x[m]?.getD 0+((j+1-m:Nat):Int):=by
          have h1:=HLT.out
          have h2:(0:Int)<=x[m]?.getD 0:=HXN.out m
          unfold wrap64;omega
         have HSJ:=hid (hrj.set j (by rw[hlen,HXL.out];exact hjk) (x[m]?.getD 0+((j+1-m:Nat):Int)))
         rw[hset]at HSJ
         have i1:(0:Int)<=((j-1:Nat):Int):=by omega
         have i2:((j-1:Nat):Int)<(k:Int):=by omega
         have i3:(0:Int)<=(j:Int):=by omega
         have i4:(j:Int)<(k:Int):=by omega
         have HKJ:=hid hkj
         obtain⟨y,hy⟩:=exq (x[m]?.getD 0+((j-m:Nat):Int))
         obtain⟨z,hz⟩:=exq (x[m]?.getD 0+((j+1-m:Nat):Int))
         rw[<- hy,<- hz]at hwv
         rw[<- hy]at hcj
         rw[<- hz]at HSJ
         obtain⟨p,hp⟩:=exq (j-1)
         rw[<- hp]at hcj hwj i1 i2
         have hjp:(j:Int)-1=(p:Int):=by omega
         clear hrj hkj hlen hget hset hy hz hp hu
         gi_wp2
         refine⟨⟨j+1,by omega,by omega,?_,HSJ.out,HKJ.out.trans (Keep.set _ _ _ _)⟩,by simp[intOf];omega⟩
         rw[show((j:Int)+1)=((j+1:Nat):Int)by omega]
        ·obtain rfl:j=k:=by omega
         have hnx:=HC.out.at HX.out
         rw[fillS_done HXL.out hkn hmk HT.out HLT.out]at hnx
         have hi1:i+1<xs.length:=(yBX.1 hnx).1
         have HNX:=hid hnx
         have HKJ:=hid hkj
         have HRJ:=hid hrj
         clear hnx hkj hrj
         gi_wp2
         gi_roundg (xs.length-(i+1))
         case measure=>omega
         case rel=>
          refine⟨i+1,zJT x m j,rfl,HNX.out,?_,HRJ.out,?_,?_,?_⟩
          ·exact HJ.out it _ W3 _ HIT.out HJ3.out ((Keep.of_below HBQ.out).trans HKJ.out)
          ·exact(HKJ.out.block kb (by have:=HBQ.out.size;omega) (by have:=HIT.out;omega)).trans ((HBQ.out.block kb (by omega)).trans HK3.out)
          ·exact(HKJ.out.block nb (by have:=HBQ.out.size;omega) (by have:=HIT.out;omega)).trans ((HBQ.out.block nb (by omega)).trans HN3.out)
          ·have:=HKJ.out.size;have:=HBQ.out.size;omega
     ·obtain rfl:i0= -1:=by omega
      have hn0:decide ((0:Int)<= -1)=false:=by decide
      have HT:=hid hT
      clear hT
      gi_wp2
      gi_quiet (fail)
      gi_wp2
      refine bodyPost_ret (results_none rfl _ _ _) rfl ?_
      refine⟨⟨_,rfl⟩,.inl ⟨it,HIT.out,?_⟩⟩
      have hnx:=HC.out.at HX.out
      rw[next_none HXL.out hkn (by simpa using HT.out)]at hnx
      rw[<- take_all_at HX.out hnx]
      exact HJ.out it _ W3 _ HIT.out HJ3.out (Keep.of_below (zAI HBI.out _))
   ·gi_wp2
    refine bodyPost_ret (results_none rfl _ _ _) rfl ?_
    exact⟨⟨_,rfl⟩,.inr ⟨_,List.take_prefix _ _,hJx⟩⟩
 ·have HNIL:=hid (HNL.out hkn)
  have hkb':w1.cell? ⟨kb,0,none⟩=some (.int .i64 k):=(World.cell?_of_block (a:=⟨kb,0,none⟩) hkb1).trans hg0
  have hnb':w1.cell? ⟨nb,0,none⟩=some (.int .i64 n):=(World.cell?_of_block (a:=⟨nb,0,none⟩) hnb1).trans hg1
  have hd:decide ((k:Int)<=(n:Int))=false:=by simp;omega
  have HJ1:=hid hJ1
  have HIT:=hid hit
  clear hJ1 hit hr1
  gi_wp2
  gi_loopw [] (fun wr=>∃q,wr=w1.drewN q) (fun _=>0)
  case atStart=>exact⟨0,rfl⟩
  case round=>
   obtain⟨q,rfl⟩:=hrel
   have hkb2:(w1.drewN q).cell? ⟨kb,0,none⟩=some (.int .i64 k):=hkb'
   have hnb2:(w1.drewN q).cell? ⟨nb,0,none⟩=some (.int .i64 n):=hnb'
   gi_wp2
   go_end0
   refine⟨⟨_,rfl⟩,.inl ⟨it,HIT.out,?_⟩⟩
   rw[HNIL.out]
   exact HJ.out it _ _ _ HIT.out HJ1.out ((Keep.refl _ _).drewN q)
end
section
open Go.RowKit
theorem sets_c(w:World)(n k:Int):
 Calls Tryz.prog 178 #[.int .i64 n,.int .i64 k] w fun e w'=>e=.returned (.func (.func 222) #[] #[.pointer (some ⟨w.heap.size+1,0,none⟩),.pointer (some ⟨w.heap.size,0,none⟩)])∧
  w'=(w.alloc (.cells #[.int .i64 n] 3)).alloc (.cells #[.int .i64 k] 3):=by
 have hmf:∀(fn:Fn) (first cap:Array Value) (w:World),(Instr.makeFunc fn first cap).run Tryz.prog w=.ok (.func fn first cap) w:=fun _ _ _ _=>rfl
 go_enter Tryz.func178,Tryz.ntmps178
 go_wp2
 go_ret
 exact⟨by simp,rfl⟩
end
section
open Go.RowKit
def zFO(b:Nat):Nat->List Deferred->World->Prop
 |_,[],_=>True
 |top,d::ds,w=>∃h,b<=h∧h<top∧d={target:=.collected h,args:=#[]}∧w.heap[h]? =some (.deferred (some []))∧zFO b h ds w
theorem zFO.keep{b:Nat}{S:Nat->Prop}{A B:World}(hk:Keep S A B):∀{top:Nat} {D:List Deferred},(∀k,k<A.heap.size->b<=k->k<top->A.heap[k]? =some (.deferred (some []))->S k)->zFO b top D A->zFO b top D B
 |_,[],_,_=>trivial
 |top,d::ds,hS,h=>by
  obtain⟨k,h1,h2,h3,h4,h5⟩:=h
  have hlt:=(yAB.1 h4).1
  exact⟨k,h1,h2,h3,(hk.block k hlt (hS k hlt h1 h2 h4)).trans h4,zFO.keep hk (fun q hq hb hqk=>hS q hq hb (by omega)) h5⟩
theorem zFO.up{b top t2:Nat}{D:List Deferred}{A:World}(h:zFO b top D A)(ht:top<=t2):zFO b t2 D A:=by
 cases D with
 |nil=>trivial
 |cons d ds=>
  obtain⟨k,h1,h2,h3⟩:=h
  exact⟨k,h1,by omega,h3⟩
theorem zFO.below{b k top:Nat}{D:List Deferred}{A:World}(hk:top<=k):∀(o:Obj),zFO b top D A->zFO b top D (A.putObj k o):=fun o h=>by
 induction D generalizing top with
 |nil=>trivial
 |cons d ds ih=>
  obtain⟨q,h1,h2,h3,h4,h5⟩:=h
  exact⟨q,h1,h2,h3,(World.putObj_heap_other (by omega)).trans h4,ih (by omega) h5⟩
theorem zFO.leave{F:Fence}{n:Nat}{P:Program}{fn:Func}{tmps:Array Value}{R:Ending->World->Prop}{b:Nat}:∀(D:List Deferred) (top:Nat) (w:World),zFO b top D w->
 (∀w',Keep (fun k=>k<b∨w.heap[k]? ≠some (.deferred (some []))) w w'->LeavesIn F n P fn tmps R [] .returning w')->LeavesInM F n P fn tmps R D .returning w
 | [],_,w,_,h=>h w (Keep.refl _ _)
 |d::ds,top,w,⟨k,h1,h2,h3,h4,h5⟩,h=>by
  refine⟨by simp,.inl ⟨k,_,by rw[h3],run_takeDeferred h4,?_⟩⟩
  refine zFO.leave ds k _ (zFO.below (yAC _) _ h5) fun w' hk=>h w' ?_
  have hp:=Keep.put w k (.deferred none)
  refine⟨hk.os.trans hp.os,hk.tape.trans hp.tape,hk.output.trans hp.output,yAF hp.size hk.size,fun i hi hs=>?_⟩
  have hne:i≠k:=by
   rintro rfl
   rcases hs with hs|hs
   ·omega
   ·exact hs h4
  have e1:(w.putObj k (.deferred none)).heap[i]? =w.heap[i]? :=World.putObj_heap_other hne
  refine(hk.block i (yAJ hi hp.size) ?_).trans e1
  rcases hs with hs|hs
  ·exact .inl hs
  ·exact .inr (by rw[e1];exact hs)
end
section
open Go.RowKit
attribute [local go_sem] Oper.semAt_some
theorem zEQ.lt{E T:TypeId}{W:World}{base:Nat}{S:Nat->Prop}{v:Value}{ls:List (List Int)}(h:zEQ E T W base S v ls):zEQ E T W base (fun b=>S b∧b<W.heap.size) v ls:=by
 obtain⟨vs,ho,hg,he⟩:=h
 refine⟨vs,ho,fun k hk=>⟨hg k hk,(ho.lt k hk).2⟩,fun j hj=>?_⟩
 obtain⟨u,hu,a,n,cap,e,hn,hm,hel⟩:=he j hj
 refine⟨u,hu,a,n,cap,e,hn,hm,fun i hi=>?_⟩
 obtain⟨b,off,e,hS,hlt,rest⟩:=hel i hi
 exact⟨b,off,e,⟨hS,hlt⟩,hlt,rest⟩
theorem zEQ.mono{E T:TypeId}{W:World}{base:Nat}{S S':Nat->Prop}{v:Value}{ls:List (List Int)}(h:zEQ E T W base S v ls)(hs:∀b,S b->S' b):zEQ E T W base S' v ls:=by
 obtain⟨vs,ho,hg,he⟩:=h
 refine⟨vs,ho,fun k hk=>hs _ (hg k hk),fun j hj=>?_⟩
 obtain⟨u,hu,a,n,cap,e,hn,hm,hel⟩:=he j hj
 refine⟨u,hu,a,n,cap,e,hn,hm,fun i hi=>?_⟩
 obtain⟨b,off,e,hS,hlt,rest⟩:=hel i hi
 exact⟨b,off,e,hs _ hS,hlt,rest⟩
theorem zEQ.keepT{E T:TypeId}{W W':World}{base:Nat}{S:Nat->Prop}{v:Value}{ls:List (List Int)}(h:zEQ E T W base S v ls)(hk:Keep (fun k=>k<base∨W.heap[k]? ≠some (.deferred (some []))) W W'):zEQ E T W' base (fun _=>True) v ls:=by
 obtain⟨vs,ho,hg,he⟩:=h
 refine⟨vs,⟨ho.1,?_⟩,fun _ _=>trivial,fun j hj=>?_⟩
 ·rcases ho.2 with hn|⟨g,cap,cur,rfl,hb,hgg,rest⟩
  ·exact .inl hn
  ·exact .inr ⟨g,cap,cur,rfl,hb,(hk.block g (yAB.1 hgg).1 (.inr (by rw[hgg];simp))).trans hgg,rest⟩
 ·obtain⟨u,hu,hel⟩:=he j hj
  obtain⟨a,n,cap,e,hn,hm,hj⟩:=hel
  refine⟨u,hu,a,n,cap,e,hn,hm,fun i hi=>?_⟩
  obtain⟨b,off,e,_,hb,hty,hc⟩:=hj i hi
  have ht:b<base∨W.heap[b]? ≠some (.deferred (some [])):=by
   rcases hty with h|⟨c,f,h⟩
   ·exact .inl h
   ·exact .inr (by rw[h];simp)
  refine⟨b,off,e,trivial,yAJ hb hk.size,?_,hk.cell hc ht⟩
  rcases hty with h|⟨c,f,h⟩
  ·exact .inl h
  ·exact .inr ⟨c,f,(hk.block b hb ht).trans h⟩
theorem zEH:∀(m k:Nat) (a:Int),(comb m k a).length<=2 ^ m
 |0,0,a=>yAC _
 |m+1,0,a=>Nat.one_le_two_pow
 |0,k+1,a=>by simp[comb]
 |m+1,k+1,a=>by
  simp only[comb,yAN,yAS]
  have h1:=zEH m k (a+1)
  have h2:=zEH m (k+1) (a+1)
  rw[Nat.pow_succ];omega
def zGX(M:List (List Int))(n t:Nat):List (List Int):=(List.range t).flatMap fun k=>(comb n (k+1) 0).filterMap (zCA M n)
theorem zOK(M:List (List Int))(n t:Nat):zGX M n (t+1)=zGX M n t++(comb n (t+1) 0).filterMap (zCA M n):=by
 unfold zGX;rw[yBQ,yDD];simp
theorem zLQ(M:List (List Int))(n:Nat):∀t,(zGX M n t).length<=t*2 ^ n
 |0=>by simp[zGX]
 |t+1=>by
  rw[zOK,yAN,Nat.succ_mul]
  have h1:=zLQ M n t
  have h2:=yEL (zCA M n) (comb n (t+1) 0)
  have h3:=zEH n (t+1) 0
  omega
theorem zKJ{P:Int->Prop}{n:Nat}{S l:List Int}(h0:P 0)(hl:∀i:Nat,P (l[i]?.getD 0)):∀k,∀x∈zAK n S l k,P x
 |0,x,hx=>by
  unfold zAK at hx
  simp at hx
  rw[hx.2];exact h0
 |k+1,x,hx=>by
  rw[zCW]at hx
  rcases yFA hx with h|rfl
  ·exact zKJ h0 hl k x h
  ·exact hl k
theorem zNS{M:List (List Int)}{n:Nat}(h:MaskOk M n){S l:List Int}(hl:l∈zDJ M S):l.length=S.length∧∀i:Nat,-518400<=l[i]?.getD 0∧l[i]?.getD 0<=518400:=by
 obtain⟨_,h2,h3,_⟩:=(h.cols S).kern hl
 refine⟨h2,fun i=>?_⟩
 have:=h3 i
 unfold vec at this
 omega
theorem circ1_no{M:List (List Int)}{n:Nat}{S:List Int}(h:(zDJ M S).length≠1):zCA M n S=none:=by
 unfold zCA
 match zDJ M S,h with
 | [],_=>rfl
 | [l],h=>simp at h
 |_::_::_,_=>rfl
theorem circ1_zero{M:List (List Int)}{n:Nat}{S l:List Int}(h:zDJ M S=[l])(h0:l.contains 0=true):zCA M n S=none:=by
 unfold zCA;rw[h];simp only[h0];rfl
theorem circ1_yes{M:List (List Int)}{n:Nat}{S l:List Int}(h:zDJ M S=[l])(h0:l.contains 0=false):zCA M n S=some (zGC (zAK n S l S.length)):=by
 unfold zCA;rw[h];simp only[h0];rfl
theorem le_max{k:Nat}(h:k<=100000):k<=maxLen:=by unfold maxLen;omega
theorem ne_one{k:Nat}(h:¬k=1):((k:Int) !=1)=true:=by simpa using (by omega:¬((k:Int)=1))
theorem ints_row{W:World}{it:Nat}{x:List Int}{sp:List Value}{E:TypeId}(h:W.heap[it]? =some (.cells (x.map (Value.int .i64)++sp).toArray E (0,0))):zAH W (some ⟨it,0,none⟩) x:=by
 intro j hj
 refine⟨it,0,rfl,(yAB.1 h).1,?_⟩
 rw[yAW]
 simp[World.cell?,h,yAO,hj]
theorem zDX.sp{W:World}{base g cap:Nat}{S:Nat->Prop}{l:List Int}(h:zBD W g l)(hm:l.length<=maxLen)(hS:S g):zDX 3 W base S (.slice (some ⟨g,0,none⟩) l.length cap) l:=by
 refine⟨_,_,cap,rfl,rfl,hm,fun j hj=>⟨g,0,rfl,hS,h.lt,?_,?_⟩⟩
 ·obtain⟨sp,h⟩:=h
  exact .inr ⟨_,_,h⟩
 ·rw[yAW];exact h.cell hj
theorem zIL{α β:Type}(f:α->Option β)(l:List α)(x:α):(l++[x]).filterMap f=l.filterMap f++(f x).toList:=by
 rw[yCS];cases h:f x<;>simp[h]
theorem primV_len(l:List Int):(zGC l).length=l.length:=by
 unfold zGC;split<;>simp[negF,zCM]
def SIt(o Z it b:Nat):Prop:=b≠o∧b≠Z∧b≠Z+1∧b≠Z+2∧b≠Z+3∧b≠it
def zLY(w:World)(q1 q6 q7 base Z it:Nat)(mv:Value)(W:Nat)(D:List Deferred)(L:List (List Int))(Y:World):Prop:=
 ∃v,Boxed Y q1 23 mv∧Boxed Y q6 3 (.int .i64 W)∧Boxed Y q7 22 v∧Below w.heap.size w Y∧Z+2<=Y.heap.size∧zEQ 3 24 Y base (SIt q7 Z it) v L∧zFO base Z D Y∧(∃u,Boxed Y Z 3 u)∧∃u,Boxed Y (Z+1) 3 u
theorem zLY.keep{w:World}{q1 q6 q7 base Z it it2:Nat}{mv:Value}{W:Nat}{D:List Deferred}{L:List (List Int)}{A B:World}(h:zLY w q1 q6 q7 base Z it mv W D L A)(hk:Keep (fun k=>k≠Z+2∧k≠Z+2+1∧k≠it2) A B)
 (h1:q1<Z)(h6:q6<Z)(h7:q7<Z)(hw:w.heap.size<=Z)(hi:Z+4<=it2)(e:it=it2):zLY w q1 q6 q7 base Z it mv W D L B:=by
 subst e
 obtain⟨v,y1,y6,y7,yB,yS,yR,yD,⟨u0,z0⟩,u1,z1⟩:=h
 refine⟨v,(hk.block _ y1.lt (by omega)).trans y1,(hk.block _ y6.lt (by omega)).trans y6,(hk.block _ y7.lt (by omega)).trans y7,hk.below yB (by omega) (fun k _=>by omega),yAF yS hk.size,
           yR.keep (hk.mono fun k hk=>⟨hk.2.2.2.1,hk.2.2.2.2.1,hk.2.2.2.2.2⟩),yD.keep hk (fun k _ _ hk _=>by omega),⟨u0,(hk.block _ z0.lt (by omega)).trans z0⟩,u1,(hk.block _ z1.lt (by omega)).trans z1⟩
theorem zLY.below{w:World}{q1 q6 q7 base Z it:Nat}{mv:Value}{W:Nat}{D:List Deferred}{L:List (List Int)}{A B:World}(h:zLY w q1 q6 q7 base Z it mv W D L A)(hb:Below A.heap.size A B):zLY w q1 q6 q7 base Z it mv W D L B:=by
 obtain⟨v,y1,y6,y7,yB,yS,yR,yD,⟨u0,z0⟩,u1,z1⟩:=h
 exact⟨v,(hb.block _ y1.lt).trans y1,(hb.block _ y6.lt).trans y6,(hb.block _ y7.lt).trans y7,zAA yB hb,yAF yS hb.size,yR.keep (Keep.of_below hb),zFO.keep (Keep.of_below hb:Keep (fun _=>True) A B) (fun _ _ _ _ _=>trivial) yD,⟨u0,(hb.block _ z0.lt).trans z0⟩,u1,(hb.block _ z1.lt).trans z1⟩
theorem zLY.start{w X wL:World}{q1 q6 q7 base:Nat}{mv v:Value}{W:Nat}{D:List Deferred}{L:List (List Int)}(y1:Boxed X q1 23 mv)(y6:Boxed X q6 3 (.int .i64 W))(y7:Boxed X q7 22 v)(yB:Below w.heap.size w X)
 (yR:zEQ 3 24 X base (fun b=>b≠q7) v L)(yD:zFO base X.heap.size D X)(hb:Below X.heap.size X wL)(hs:wL.heap.size=X.heap.size+2)(z0:∃u,Boxed wL X.heap.size 3 u)(z1:∃u,Boxed wL (X.heap.size+1) 3 u)(it:Nat)(hi:X.heap.size+4<=it):zLY w q1 q6 q7 base X.heap.size it mv W D L wL:=by
 refine⟨v,(hb.block _ y1.lt).trans y1,(hb.block _ y6.lt).trans y6,(hb.block _ y7.lt).trans y7,zAA yB hb,by omega,?_,zFO.keep (Keep.of_below hb:Keep (fun _=>True) X wL) (fun _ _ _ _ _=>trivial) yD,z0,z1⟩
 exact(yR.lt.mono fun q hq=>⟨hq.1,by have:=hq.2;omega,by have:=hq.2;omega,by have:=hq.2;omega,by have:=hq.2;omega,by have:=hq.2;omega⟩:zEQ 3 24 X base (SIt q7 X.heap.size it) v L).keep (Keep.of_below hb)
theorem four_lt{Z it s k:Nat}(hs:Z+4<=s)(hi:it<s)(h:(k=Z+1∨k=Z)∨k=Z+2∨k=Z+2+1∨k=it):k<s:=by omega
theorem circ_push{w Y w7 w9:World}{q1 q6 q7 base Z it g cap c5:Nat}{a5:Option Addr}{mv v:Value}{W:Nat}{D:List Deferred}{C:List (List Int)}{r:List Int}{vs:List Value}{cx:Array Value}{ox:Nat×Nat}
 (y1:Boxed Y q1 23 mv)(y6:Boxed Y q6 3 (.int .i64 W))(y7:Boxed Y q7 22 v)(yB:Below w.heap.size w Y)(yS:Z+2<=Y.heap.size)(yD:zFO base Z D Y)(z0:∃u,Boxed Y Z 3 u)(z1:∃u,Boxed Y (Z+1) 3 u)
 (hq1:q1<base)(hq6:q6<base)(hq7:q7<base)(hbZ:base<=Z)(hwb:w.heap.size<=q7)(hn1:q1≠q7)(hn6:q6≠q7)(hx:Y.heap[it]? =some (.cells cx 3 ox))(hi:Z+4<=it)(hit:it<Y.heap.size)
 (hDo:∃o,Y.heap[Z+2]? =some o∧o.isCells=false)(hLo:∃o,Y.heap[Z+2+1]? =some o∧o.isCells=false)
 (hY7:Below Y.heap.size Y w7)(ho:w7.ownsRow base 24 1 v C.length vs)(hg:∀k,v.ownBlock=some k->SIt q7 Z it k)(he:∀j (hj:j<C.length),∃u,vs[j]? =some u∧zDX 3 w7 base (SIt q7 Z it) u C[j])
 (hr:zBD w7 g r)(hgY:Y.heap.size<=g)(hrm:r.length<=maxLen){o8:Obj}(g5:(w7.alloc o8).grownBy w9 v.ownBlock)
 (own5:w9.ownsRow base 24 1 (.slice a5 (C.length+1) c5) (C.length+1) (vs++[.slice (some ⟨g,0,none⟩) r.length cap])):
 Y.heap.size<=(w9.setCell ⟨q7,0,none⟩ (.slice a5 (C.length+1) c5)).heap.size∧(∀k,((k=Z+1∨k=Z)∨k=Z+2∨k=Z+2+1∨k=it)->(w9.setCell ⟨q7,0,none⟩ (.slice a5 (C.length+1) c5)).heap[k]? =Y.heap[k]?)∧
  zLY w q1 q6 q7 base Z it mv W D (C++[r]) (w9.setCell ⟨q7,0,none⟩ (.slice a5 (C.length+1) c5)):=by
 have hb78:Below w7.heap.size w7 (w7.alloc o8):=(Below.refl _ _).alloc (yAC _) _
 have hkw:Keep (fun k=>k≠q7) w9 (w9.setCell ⟨q7,0,none⟩ (.slice a5 (C.length+1) c5)):=Keep.set w9 _ 0 _
 have hs79:w7.heap.size<w9.heap.size:=by have:=g5.size;simp at this;omega
 have hs7:=hY7.size
 -- what is not v's own block stays
 have hold9:∀k,k<Y.heap.size->v.ownBlock≠some k->w9.heap[k]? =Y.heap[k]? :=fun k hk hne=>
  (g5.block k (by rw[World.size_alloc];omega) (fun e=>hne e.symm)).trans ((hb78.block k (by omega)).trans (hY7.block k hk))
 have hold:∀k,k<Y.heap.size->k≠q7->v.ownBlock≠some k->(w9.setCell ⟨q7,0,none⟩ (.slice a5 (C.length+1) c5)).heap[k]? =Y.heap[k]? :=fun k hk h7 hne=>
  (hkw.block k (by omega) h7).trans (hold9 k hk hne)
 have hlow:∀k,k<base->v.ownBlock≠some k:=fun k hk e=>by have:=(ho.lt k e).1;omega
 have hspec:∀k,((k=Z+1∨k=Z)∨k=Z+2∨k=Z+2+1∨k=it)->v.ownBlock≠some k:=fun k hk e=>by
  obtain⟨_,h2,h3,h4,h5,h6⟩:=hg k e
  omega
 have hspec2:∀k,((k=Z+1∨k=Z)∨k=Z+2∨k=Z+2+1∨k=it)->w9.heap[k]? =Y.heap[k]? :=fun k hk=>hold9 k (four_lt (by omega) hit hk) (hspec k hk)
 have hv9:Boxed w9 q7 22 v:=(hold9 q7 y7.lt (hlow _ hq7)).trans y7
 have hdef:∀k,k<Y.heap.size->Y.heap[k]? =some (.deferred (some []))->v.ownBlock≠some k:=fun k hk hd e=>by
  rcases ho.2 with⟨rfl,_⟩|⟨g',cap',cur,rfl,hbg,hgg,_⟩
  ·simp[Value.ownBlock]at e
  ·obtain rfl:g'=k:=by simpa[Value.ownBlock]using e
   rw[hY7.block g' hk,hd]at hgg
   cases hgg
 -- the new own block
 have hS':∀k,(Value.slice a5 (C.length+1) c5).ownBlock=some k->SIt q7 Z it k:=by
  intro k hk
  have hkb:=(own5.lt k hk).1
  have hty:∃c f,w9.heap[k]? =some (.cells c 24 f):=by
   rcases own5.2 with⟨h,_⟩|⟨g',cap',cur,h,_,hh,_⟩
   ·rw[h]at hk;simp[Value.ownBlock]at hk
   ·rw[h]at hk
    obtain rfl:g'=k:=by simpa[Value.ownBlock]using hk
    exact⟨_,_,hh⟩
  obtain⟨c,f,hty⟩:=hty
  have hnot:∀k',((k'=Z+1∨k'=Z)∨k'=Z+2∨k'=Z+2+1∨k'=it)->k=k'->False:=fun k' hk' e=>by
   subst e
   rw[hspec2 k hk']at hty
   rcases hk' with (rfl|rfl)|rfl|rfl|rfl
   ·obtain⟨u,z1⟩:=z1
    rw[show Y.heap[Z+1]? =_ from z1]at hty
    simp at hty
   ·obtain⟨u,z0⟩:=z0
    rw[show Y.heap[k]? =_ from z0]at hty
    simp at hty
   ·obtain⟨o,h1,h2⟩:=hDo
    rw[h1]at hty
    cases hty
    simp[Obj.isCells]at h2
   ·obtain⟨o,h1,h2⟩:=hLo
    rw[h1]at hty
    cases hty
    simp[Obj.isCells]at h2
   ·rw[hx]at hty
    simp at hty
  exact⟨by omega,fun e=>hnot Z (by simp) e,fun e=>hnot (Z+1) (by simp) e,fun e=>hnot (Z+2) (by simp) e,fun e=>hnot (Z+2+1) (by simp) e,fun e=>hnot it (by simp) e⟩
 have hEl:zDX 3 w7 base (SIt q7 Z it) (.slice (some ⟨g,0,none⟩) r.length cap) r:=zDX.sp hr hrm ⟨by omega,by omega,by omega,by omega,by omega,by omega⟩
 have hR3:=zEQ.snoc (by decide) ho he hEl hb78 g5 own5 hS'
 refine⟨by have:=hkw.size;omega,fun k hk=>hold k (four_lt (by omega) hit hk) (by omega) (hspec k hk),?_⟩
 have hK:Keep (fun k=>k≠q7∧v.ownBlock≠some k) Y (w9.setCell ⟨q7,0,none⟩ (.slice a5 (C.length+1) c5)):=
  ⟨by rw[hkw.os,g5.os];exact hb78.os.trans hY7.os,by rw[hkw.tape,g5.tape];exact hb78.tape.trans hY7.tape,by rw[hkw.output,g5.output];exact hb78.output.trans hY7.output,by have:=hkw.size;omega,fun k hk hs=>hold k hk hs.1 hs.2⟩
 obtain⟨u0,z0⟩:=z0
 obtain⟨u1,z1⟩:=z1
 have hz1:=z1.lt
 refine⟨_,(hK.block _ y1.lt ⟨hn1,hlow _ hq1⟩).trans y1,(hK.block _ y6.lt ⟨hn6,hlow _ hq6⟩).trans y6,hv9.set _,?_,by have:=hkw.size;omega,?_,?_,⟨u0,(hK.block _ z0.lt ⟨by omega,hspec _ (by simp)⟩).trans z0⟩,u1,(hK.block _ z1.lt ⟨by omega,hspec _ (by simp)⟩).trans z1⟩
 ·exact hK.below yB yB.size (fun k hk=>⟨by omega,hlow k (by omega)⟩)
 ·exact hR3.keep (hkw.mono fun k hk=>hk.1)
 ·exact yD.keep hK (fun k hk hb _ hd=>⟨by omega,hdef k hk hd⟩)
theorem meas2{n k:Nat}(h:k<n):n-(intOf (.int .i64 ((k+1:Nat):Int))).toNat<n-(intOf (.int .i64 (k:Int))).toNat:=by simp[intOf];omega
theorem circuits_c(w:World)(a:Option Addr)(n cap:Nat)(M:Mask)(hn:M.length=n)(hm:n<=maxLen)(H:zAM w a M):
 Calls Tryz.prog 119 #[.slice a n cap] w fun e w'=>∃v base,w.heap.size<=base∧Below w.heap.size w w'∧
  ((okM M=false∧e=.returned (.tuple #[.slice none 0 0,.int .i64 1]))∨(okM M=true∧e=.returned (.tuple #[v,.int .i64 0])∧zEQ 3 24 w' base (fun _=>True) v (zEN M (zAD M)))):=by
 have HRK:=hid (fun(W:World) (hb:Below w.heap.size w W)=>rank_c W a n cap M hn hm (H.below hb))
 cases hok:okM M
 ·rw[hok]at HRK
  clear hn H
  refine callsIn_wide (n:=0) |>.1 ?_
  refine callsIn_of_wp_marks Tryz.func119 rfl trivial ?_ rfl
  simp only[Tryz.ntmps119,yED,yBB,yCD,Nat.reduceAdd,Nat.reduceSub,yDJ,yDI,yEF,yDR,yDL,yDG]
  gi_wp2_with (refine⟨trivial,rfl,?_⟩;gi_at_call 177;refine(callsIn_wide.2 (HRK.out _ ((Below.refl _ w).alloc (yAC _) _))).mono ?_;rintro e w1 ⟨hb1,⟨_,rfl⟩|⟨h,_⟩⟩;rotate_left;cases h)
  refine⟨_,results_tmp2 rfl _ _ _,.slice none 0 0,w.heap.size,yAC _,?_,.inl ⟨trivial,rfl⟩⟩
  exact zAA ((Below.refl _ w).alloc (yAC _) _) hb1
 ·rw[hok]at HRK
  obtain⟨hM,h1,h6,hc1,hc10⟩:=zCR hok
  obtain⟨b,off,ra,rc,rfl,hb,hc⟩:=zCT H (by omega)
  have HR:=hid H
  have HNN:=hid hn
  have HM:=hid hM
  have hn0:0<n:=by omega
  obtain⟨W,hW⟩:=exq (zAD M)
  rw[<- hW]at hc hc1 hc10 HM HRK⊢
  obtain⟨rk,hrk⟩:=exq (zDE M W)
  rw[<- hrk]at HRK
  have HRKE:=hid hrk
  have hrk6:rk<=6:=by rw[hrk];exact yAF (zQX HM.out) h6
  have HMK:=hid (show ∀w,(Instr.makeSlice 24 (.int .i64 (W:Int)) (.int .i64 (W:Int))).run Tryz.prog w=.ok (.slice (some ⟨w.heap.size,0,none⟩) W W) (w.alloc (.cells (madeCells #[.int .i64 0] W) 3))from fun w=>run_make_row' 24 3 (.int .i64 0) 8 Tryz.underlying24 zDN rfl .i64 .i64 W (by omega) (by omega) w)
  have hz:(0:Int)<(n:Int):=by omega
  clear hn H hM hok hW hrk hm
  refine callsIn_wide (n:=0) |>.1 ?_
  refine callsIn_of_wp_marks Tryz.func119 rfl trivial ?_ rfl
  simp only[Tryz.ntmps119,yED,yBB,yCD,Nat.reduceAdd,Nat.reduceSub,yDJ,yDI,yEF,yDR,yDL,yDG]
  gi_wp2_with (refine⟨trivial,rfl,?_⟩;gi_at_call 177;refine(callsIn_wide.2 (HRK.out _ ((Below.refl _ w).alloc (yAC _) _))).mono ?_;rintro e w1 ⟨hb1,⟨h,_⟩|⟨_,rfl⟩⟩;cases h;refine Stop.of ?_)
  refine Stop.go ?_
  have HS:=hid (fun(X:World) (hX:Below w.heap.size w X)=>(hX.cell (p:=⟨b,off,none⟩) hb).trans hc)
  have hbw1:=zAA ((Below.refl _ w).alloc (yAC _) (.cells #[.slice (some ⟨b,off,none⟩) n cap] 23)) hb1
  have hcw1:=HS.out _ hbw1
  have hc1w:w1.cell? ⟨w.heap.size,0,none⟩=some (.slice (some ⟨b,off,none⟩) n cap):=(hb1.cell (p:=⟨w.heap.size,0,none⟩) (by simp)).trans (by rw[World.cell?_alloc_at _ _ _ _ rfl];rfl)
  obtain⟨w2,hw2⟩:=exq ((w1.alloc (.cells #[.int .i64 W] 3)).alloc (.cells #[.slice none 0 0] 22))
  have hs2:w2.heap.size=w1.heap.size+2:=by rw[hw2];simp
  have hB6:Boxed w2 w1.heap.size 3 (.int .i64 W):=by rw[hw2];exact(Boxed.new w1 3 (.int .i64 W)).alloc _
  have hB7:Boxed w2 (w1.heap.size+1) 22 (.slice none 0 0):=by
   rw[hw2]
   have:=Boxed.new (w1.alloc (.cells #[.int .i64 W] 3)) 22 (.slice none 0 0)
   rwa [World.size_alloc]at this
  have hb12:Below w1.heap.size w1 w2:=by rw[hw2];exact((Below.refl _ w1).alloc (yAC _) _).alloc (by simp) _
  have hB1:Boxed w2 w.heap.size 23 (.slice (some ⟨b,off,none⟩) n cap):=
   (hb12.block _ (yAJ (by simp) hb1.size)).trans ((hb1.block _ (by simp)).trans (Boxed.new w 23 _))
  have HB1:=hid hB1
  have HB6:=hid hB6
  have HB7:=hid hB7
  have HBW2:=hid (zAA hbw1 hb12)
  have HW2:=hid hw2
  have HS2:=hid hs2
  have hsw:w.heap.size<w1.heap.size:=yAJ (by simp) hb1.size
  obtain⟨N,hN⟩:∃N:Nat,N=min (rk+1) W:=⟨_,rfl⟩
  have HNC:=hid (show zEN M W=zGX M W N by rw[hN,HRKE.out];rfl)
  have HN:=hid hN
  have HN10:=hid (show N<=10 by omega)
  clear hw2 hs2 hB6 hB7 hb12 hB1 hb1 hbw1 hN
  gi_wp2
  all_goals
   rw[<- HW2.out]
   first
    |rw[show(rk:Int)+1=(N:Int)by have:=HN.out;omega]
    |rw[show(W:Int)=(N:Int)by have:=HN.out;omega]
   have HBO:=hid (show w2.heap.size=w1.heap.size+2 from HS2.out)
   obtain⟨I,hI⟩:∃I:Act->World->Prop,I=(fun a' X=>∃(u0 u2 u3 u4 u5 u8 u9 u10 u11 u12 u13 u14 u15 u16 u17 u18 u19 u20 u21 u22 u23 u24 u25 u26 u27 u28 u31 u32 u33 u34 u35 u36 u37 u38 u39 u40 u41 u42 u43 u44 u45 u46 u47 u48 u49 u50 u51 u52 u53 u54 u55 u56 u57 u58 u59 u60 u61 u62 u63 u64 u65 u66 u67 u68 u69 u70 u71 u72 u73 u74 u75:Value),∃(t:Nat) (D:List Deferred) (v:Value),t<=N∧Boxed X w.heap.size 23 (.slice (some ⟨b,off,none⟩) n cap)∧Boxed X w1.heap.size 3 (.int .i64 W)∧Boxed X (w1.heap.size+1) 22 v∧Below w.heap.size w X∧w2.heap.size<=X.heap.size∧
    zEQ 3 24 X w2.heap.size (fun b=>b≠w1.heap.size+1) v (zGX M W t)∧zFO w2.heap.size X.heap.size D X∧
    a'=⟨#[u0,.pointer (some ⟨w.heap.size,0,none⟩),u2,u3,u4,u5,.pointer (some ⟨w1.heap.size,0,none⟩),.pointer (some ⟨w1.heap.size+1,0,none⟩),u8,u9,u10,u11,u12,u13,u14,u15,u16,u17,u18,u19,u20,u21,u22,u23,u24,u25,u26,u27,u28,.int .i64 N,.int .i64 t,u31,u32,u33,u34,u35,u36,u37,u38,u39,u40,u41,u42,u43,u44,u45,u46,u47,u48,u49,u50,u51,u52,u53,u54,u55,u56,u57,u58,u59,u60,u61,u62,u63,u64,u65,u66,u67,u68,u69,u70,u71,u72,u73,u74,u75],D⟩):=⟨_,rfl⟩
   have HI:=hid hI
   clear hI
   obtain⟨mu,hmu⟩:∃mu:Act->World->Nat,mu=(fun a' _=>N-(intOf (a'.tmps.getD 30 undef)).toNat):=⟨_,rfl⟩
   have HMU:=hid hmu
   clear hmu
   refine wpIn_loop I mu ?_ ?_
   ·rw[HI.out]
    exact⟨_,_,_,_,_,_,_,_,_,_,_,_,_,_,_,_,_,_,_,_,_,_,_,_,_,_,_,_,_,_,_,_,_,_,_,_,_,_,_,_,_,_,_,_,_,_,_,_,_,_,_,_,_,_,_,_,_,_,_,_,_,_,_,_,_,_,_,_,_,_,_,0,[],_,yAK _,HB1.out,HB6.out,HB7.out,HBW2.out,yAC _,zEQ.nil _ _ _ _ _,trivial,rfl⟩
   ·intro a' X hIX
    rw[HI.out]at hIX
    obtain⟨u0,hIX⟩:=hIX;obtain⟨u2,hIX⟩:=hIX;obtain⟨u3,hIX⟩:=hIX;obtain⟨u4,hIX⟩:=hIX;obtain⟨u5,hIX⟩:=hIX;obtain⟨u8,hIX⟩:=hIX;obtain⟨u9,hIX⟩:=hIX;obtain⟨u10,hIX⟩:=hIX;obtain⟨u11,hIX⟩:=hIX;obtain⟨u12,hIX⟩:=hIX;obtain⟨u13,hIX⟩:=hIX;obtain⟨u14,hIX⟩:=hIX;obtain⟨u15,hIX⟩:=hIX;obtain⟨u16,hIX⟩:=hIX;obtain⟨u17,hIX⟩:=hIX;obtain⟨u18,hIX⟩:=hIX;obtain⟨u19,hIX⟩:=hIX;obtain⟨u20,hIX⟩:=hIX;obtain⟨u21,hIX⟩:=hIX;obtain⟨u22,hIX⟩:=hIX;obtain⟨u23,hIX⟩:=hIX;obtain⟨u24,hIX⟩:=hIX;obtain⟨u25,hIX⟩:=hIX;obtain⟨u26,hIX⟩:=hIX;obtain⟨u27,hIX⟩:=hIX;obtain⟨u28,hIX⟩:=hIX;obtain⟨u31,hIX⟩:=hIX;obtain⟨u32,hIX⟩:=hIX;obtain⟨u33,hIX⟩:=hIX;obtain⟨u34,hIX⟩:=hIX;obtain⟨u35,hIX⟩:=hIX;obtain⟨u36,hIX⟩:=hIX;obtain⟨u37,hIX⟩:=hIX;obtain⟨u38,hIX⟩:=hIX;obtain⟨u39,hIX⟩:=hIX;obtain⟨u40,hIX⟩:=hIX;obtain⟨u41,hIX⟩:=hIX;obtain⟨u42,hIX⟩:=hIX;obtain⟨u43,hIX⟩:=hIX;obtain⟨u44,hIX⟩:=hIX;obtain⟨u45,hIX⟩:=hIX;obtain⟨u46,hIX⟩:=hIX;obtain⟨u47,hIX⟩:=hIX;obtain⟨u48,hIX⟩:=hIX;obtain⟨u49,hIX⟩:=hIX;obtain⟨u50,hIX⟩:=hIX;obtain⟨u51,hIX⟩:=hIX;obtain⟨u52,hIX⟩:=hIX;obtain⟨u53,hIX⟩:=hIX;obtain⟨u54,hIX⟩:=hIX;obtain⟨u55,hIX⟩:=hIX;obtain⟨u56,hIX⟩:=hIX;obtain⟨u57,hIX⟩:=hIX;obtain⟨u58,hIX⟩:=hIX;obtain⟨u59,hIX⟩:=hIX;obtain⟨u60,hIX⟩:=hIX;obtain⟨u61,hIX⟩:=hIX;obtain⟨u62,hIX⟩:=hIX;obtain⟨u63,hIX⟩:=hIX;obtain⟨u64,hIX⟩:=hIX;obtain⟨u65,hIX⟩:=hIX;obtain⟨u66,hIX⟩:=hIX;obtain⟨u67,hIX⟩:=hIX;obtain⟨u68,hIX⟩:=hIX;obtain⟨u69,hIX⟩:=hIX;obtain⟨u70,hIX⟩:=hIX;obtain⟨u71,hIX⟩:=hIX;obtain⟨u72,hIX⟩:=hIX;obtain⟨u73,hIX⟩:=hIX;obtain⟨u74,hIX⟩:=hIX;obtain⟨u75,hIX⟩:=hIX
    obtain⟨t,D,v,ht,hX1,hX6,hX7,hXB,hXS,hXR,hXD,rfl⟩:=hIX
    have c1:=hX1.cell
    have c6:=hX6.cell
    have c7:=hX7.cell
    have HXX:=hid (And.intro hX1 (And.intro hX6 (And.intro hX7 (And.intro hXB (And.intro hXS (And.intro hXR hXD))))))
    clear hX1 hX6 hX7 hXB hXS hXR hXD
    by_cases hlt:t<N
    ·have hlt':(t:Int)<(N:Int):=by omega
     have ht1k:t+1<=1000:=yAF (yAF hlt HN10.out) (by decide)
     gi_wp2_with (refine⟨trivial,rfl,?_⟩;gi_at_call 178;refine(callsIn_wide.2 (sets_c _ _ _)).mono ?_;rintro e w' ⟨rfl,rfl⟩;refine Stop.of ?_)
     refine Stop.go ?_
     obtain⟨wL,hwL⟩:=exq ((X.alloc (.cells #[.int .i64 W] 3)).alloc (.cells #[.int .i64 ((t:Int)+1)] 3))
     have hsz:wL.heap.size=X.heap.size+2:=by rw[hwL];simp
     have hbL:Below X.heap.size X wL:=by rw[hwL];exact((Below.refl _ X).alloc (yAC _) _).alloc (by simp) _
     have hZ0:Boxed wL X.heap.size 3 (.int .i64 W):=by rw[hwL];exact(Boxed.new X 3 (.int .i64 (W:Int))).alloc _
     have hZ1:Boxed wL (X.heap.size+1) 3 (.int .i64 ((t+1:Nat):Int)):=by
      rw[hwL]
      have h1:=Boxed.new (X.alloc (.cells #[.int .i64 (W:Int)] 3)) 3 (.int .i64 ((t:Int)+1))
      rwa [World.size_alloc]at h1
     have hF0:=hZ1.cell
     have hF1:=hZ0.cell
     rw[<- hwL]
     clear hwL c1 c6 c7
     obtain⟨hX1,hX6,hX7,hXB,hXS,hXR,hXD⟩:=HXX.out
     have HBL:=hid hbL
     have HSZ:=hid hsz
     have hSS:=HS2.out
     have hq7:w1.heap.size+1<X.heap.size:=hX7.lt
     have hq6:w1.heap.size<X.heap.size:=hX6.lt
     have hq1:w.heap.size<X.heap.size:=hX1.lt
     have hqw:w.heap.size<=X.heap.size:=hXB.size
     have hW1k:W<=1000:=yAF hc10 (by decide)
     gi_wp2
     refine range_ints (gf:=222) (lb:=#[.pointer (some ⟨X.heap.size+1,0,none⟩),.pointer (some ⟨X.heap.size,0,none⟩)]) (xs:=comb W (t+1) 0) (fp:=fun k=>k=X.heap.size+1∨k=X.heap.size) (E:=3) rfl (enters_of Tryz.func222 (by kernel_rfl) rfl)
      (iter_sets wL W (t+1) (X.heap.size+1) X.heap.size hW1k ht1k (Nat.le_add_left 1 t) (by rw[hsz];exact yEM _) (by rw[hsz];exact yAJ (yEM _) (Nat.le_succ _)) hF0 hF1) (Below.refl _ _) (by intro k hk;omega)
      (fun it pre Y=>zLY w w.heap.size w1.heap.size (w1.heap.size+1) w2.heap.size X.heap.size it (.slice (some ⟨b,off,none⟩) n cap) W D (zGX M W t++pre.filterMap (zCA M W)) Y)
      (fun _ _ _=>False) ?hI (fun _ _ _ _ h _=>h) ?h0
      (fun yv=>{tmps:=#[u0,.pointer (some ⟨w.heap.size,0,none⟩),u2,u3,u4,u5,.pointer (some ⟨w1.heap.size,0,none⟩),.pointer (some ⟨w1.heap.size+1,0,none⟩),.int .i64 t,yv,u10,u11,u12,u13,u14,u15,u16,u17,u18,u19,u20,u21,u22,u23,u24,u25,u26,u27,u28,.int .i64 N,.int .i64 t,.bool true,.int .i64 t,.int .i64 W,.int .i64 t,.int .i64 ((t:Int)+1),.func (.func 222) #[] #[.pointer (some ⟨X.heap.size+1,0,none⟩),.pointer (some ⟨X.heap.size,0,none⟩)],yv,u38,u39,u40,u41,u42,u43,u44,u45,u46,u47,u48,u49,u50,u51,u52,u53,u54,u55,u56,u57,u58,u59,u60,u61,u62,u63,u64,u65,u66,u67,u68,u69,u70,u71,u72,u73,u74,u75],defers:=[]}) ?assign ?body ?done ?stop
     case hI=>
      intro it s A B hit hI hk
      rw[hsz]at hit hk
      exact hI.keep hk hq1 hq6 hq7 hqw hit rfl
     case h0=>
      intro it hit
      rw[hsz]at hit
      simp only[yFN,yBC]
      exact zLY.start hX1 hX6 hX7 hXB hXR hXD hbL hsz ⟨_,hZ0⟩ ⟨_,hZ1⟩ it hit
     case assign=>
      intro l v W K hK
      gi_wp2
      exact hK
     case body=>
      clear hX1 hX6 hX7 hXB hXR hXD
      rintro l' it pre x cap' sp Y hit hpre hYI hitY hx hDo hLo
      rw[hsz]at hit hDo hLo⊢
      have HYI:=hid hYI
      obtain⟨v,y1,y6,y7,yB,yS,yR,yD,_,_⟩:=hYI
      have hxm:x∈comb W (t+1) 0:=hpre.subset (by simp)
      have hxl:x.length=t+1:=zCG _ _ _ x hxm
      have hxo:zCI W x:=zHR hxm
      have hxi:zAH Y (some ⟨it,0,none⟩) x:=ints_row hx
      have PK:=hid (pkernel_c Y (some ⟨b,off,none⟩) n cap M HNN.out hn0 HM.out (HR.out.below yB) (some ⟨it,0,none⟩) x.length cap' x rfl (by rw[hxl];exact Nat.le_add_left 1 t) (by rw[hxl];exact ht1k) hxi hxo.2)
      obtain⟨Kx,hKx⟩:=exq (zDJ M x)
      have HKF:=hid (show ∀l∈Kx,l.length=t+1∧∀i:Nat,-518400<=l[i]?.getD 0∧l[i]?.getD 0<=518400 by rw[hKx,<- hxl];exact fun l hl=>zNS HM.out hl)
      have HKN:=hid (show Kx.length≠1->zCA M W x=none by rw[hKx];exact circ1_no)
      have HKZ:=hid (show ∀l,Kx=[l]->l.contains 0=true->zCA M W x=none by rw[hKx];exact fun l=>circ1_zero)
      have HKY:=hid (show ∀l,Kx=[l]->l.contains 0=false->zCA M W x=some (zGC (zAK W x l x.length))by rw[hKx];exact fun l=>circ1_yes)
      rw[<- hKx]at PK
      clear hKx
      have hcnt:(zGX M W t++pre.filterMap (zCA M W)).length<=20000:=by
       rw[yAN]
       have e1:=zLQ M W t
       have e2:=yEL (zCA M W) pre
       have e3:=hpre.length_le
       have e4:=zEH W (t+1) 0
       have e5:2 ^ W<=1024:=yCG (by omega) (show W<=10 from hc10)
       have e6:t*2 ^ W<=10*1024:=yAV (yAF (yFH hlt) HN10.out) e5
       rw[yAN,yDB]at e3
       omega
      have HCN:=hid hcnt
      have hfilt:=zIL (zCA M W) pre x
      have HFI:=hid hfilt
      have HX:=hid hx
      have HXO:=hid hxo
      have HXI:=hid hxi
      have HD:=hid hDo
      have HLo:=hid hLo
      have hy1:=y1.cell
      have hy6:=y6.cell
      have HY:=hid (And.intro y1 (And.intro y6 (And.intro y7 (And.intro yB (And.intro yS (And.intro yR yD))))))
      have hitZ:X.heap.size+4<=it:=hit
      have hity:it<Y.heap.size:=hitY
      obtain⟨T,hT⟩:=exq (x.length)
      rw[<- hT]at PK HKY hxl⊢
      have HXL:=hid hxl
      have HT:=hid hT
      have hT11:T<=1000:=by rw[hxl];exact ht1k
      have HYS:=hid (fun k hk=>four_lt (k:=k) (yAF hit (yFH hity)) hity hk)
      have POST:=hid (show ∀W3,Below Y.heap.size Y W3->zCA M W x=none->Y.heap.size<=W3.heap.size∧(∀k,((k=X.heap.size+1∨k=X.heap.size)∨k=X.heap.size+2∨k=X.heap.size+2+1∨k=it)->W3.heap[k]? =Y.heap[k]?)∧zLY w w.heap.size w1.heap.size (w1.heap.size+1) w2.heap.size X.heap.size it (.slice (some ⟨b,off,none⟩) n cap) W D (zGX M W t++(pre++[x]).filterMap (zCA M W)) W3 from fun W3 hb h0=>by
       refine⟨hb.size,fun k hk=>hb.block k (HYS.out k hk),?_⟩
       rw[HFI.out,h0]
       simp only[Option.toList_none,yBC]
       exact HYI.out.below hb)
      clear hT hcnt hfilt hx hxl hxo hxi hDo hLo hpre hxm y1 y6 y7 yB yS yR yD hit hF0 hF1 hbL hZ0 hZ1
      by_cases hk1:Kx.length=1
      ·obtain⟨l0,hl0⟩:∃l0,Kx=[l0]:=List.length_eq_one_iff.1 hk1
       have HL0:=hid (HKF.out l0 (by rw[hl0];exact yCB.2 rfl))
       have HZ:=hid (HKZ.out l0 hl0)
       have HYY:=hid (HKY.out l0 hl0)
       rw[hl0]at PK
       clear hk1 hl0 HKN HKZ HKY HKF
       gi_wp2_with (refine⟨trivial,rfl,?_⟩;gi_at_call 179;refine(CallsIn.inRound l' (callsIn_wide.2 PK.out)).mono ?_;rintro e w3 ⟨v3,base3,rfl,hbs3,hO3,hb3⟩;refine Stop.of ?_)
       refine Stop.go ?_
       obtain⟨ka,kc,rfl,hKR⟩:=hO3.rows (fun r hr=>by rw[yCB.1 hr,HL0.out.1];exact le_max (yAF ht1k (by decide)))
       obtain⟨kb5,ko5,ra5,rn5,rc5,rfl,hkb5,hkc5,hrn5,hrm5,hri5⟩:=hKR 0 (by simp)
       simp only[yBG,yDS]at hkc5 hrn5 hri5
       have HCV:=hid (containsV w3 ra5 rn5 rc5 l0 hrn5 hrm5 hri5 0)
       have hrT:rn5=T:=by rw[<- hrn5,HL0.out.1];exact HXL.out.symm
       subst hrT
       have HKB:=hid hkb5
       have HRI:=hid hri5
       have HRN:=hid hrn5
       have HB3:=hid hb3
       have HCY:=hid (fun(W3:World) (q o:Nat) (u:Value) (hb:Below Y.heap.size Y W3) (h:Y.cell? ⟨q,o,none⟩=some u)=>show W3.cell? ⟨q,o,none⟩=some u from(hb.cell (p:=⟨q,o,none⟩) (World.block_lt_of_cell? Y ⟨q,o,none⟩ h)).trans h)
       have hy6':=HCY.out _ _ _ _ hb3 hy6
       simp only[yDB]
       clear hO3 hKR hkb5 hri5 hrn5 hrm5 hb3 hbs3 PK
       cases h0:l0.contains 0
       ·rw[h0]at HCV
        have HSOME:=hid (HYY.out h0)
        clear h0 HYY HZ POST
        gi_wp2_with (refine⟨trivial,rfl,?_⟩;gi_at_call 180;refine(CallsIn.inRound l' (callsIn_wide.2 HCV.out)).mono ?_;rintro e w4 ⟨rfl,rfl⟩;refine Stop.of ?_)
        refine Stop.go ?_
        obtain⟨w5,hw5⟩:=exq (w3.alloc (.cells (madeCells #[.int .i64 0] W) 3))
        have hr5:zBD w5 w3.heap.size (List.replicate W 0):=by rw[hw5];exact⟨[],by rw[yBC];exact zLT.made w3 3 W⟩
        have hb5:Below w3.heap.size w3 w5:=by rw[hw5];exact(Below.refl _ _).alloc (yAC _) _
        have hs5:w5.heap.size=w3.heap.size+1:=by rw[hw5];simp
        have HR5:=hid hr5
        have HB5:=hid hb5
        have HS5:=hid hs5
        have HW5:=hid hw5
        have hmk:=HMK.out
        clear hr5 hb5 hs5 hw5
        gi_wp2
        rw[<- HW5.out]
        clear hmk
        gi_loopw [54] (fun i wr=>∃q:Nat,q<=rn5∧i=.int .i64 q∧zBD wr w3.heap.size (zAK W x l0 q)∧Keep (fun k=>k≠w3.heap.size) w5 wr) (fun i _=>rn5-(intOf i).toNat)
        case atStart=>exact⟨0,yAK _,rfl,HR5.out,Keep.refl _ _⟩
        case round=>
         obtain⟨q,hq,rfl,hr,hkp⟩:=hrel
         have hb35:Below w3.heap.size w3 wr:=hkp.below HB5.out (by have:=HS5.out;omega) (fun k hk=>by omega)
         have hbY:=zAA HB3.out hb35
         by_cases hlq:q<rn5
         ·have hqx:q<x.length:=by rw[<- HT.out];exact hlq
          have hcx:wr.cell? ⟨it,q,none⟩=some (.int .i64 (x[q]?.getD 0)):=by
           obtain⟨b7,o7,e7,_,h7⟩:=(HXI.out.below hbY) q hqx
           cases e7
           rw[yAW]at h7
           exact h7
          have hpb:=HXO.out.get hqx
          have hsn:=zCW W x l0 q
          have hxq:x[q]?.getD 0=x[q]:=by rw[yAA hqx];rfl
          rw[hxq]at hcx hsn
          obtain⟨p,hp⟩:∃p:Nat,x[q]=(p:Int):=⟨(x[q]).toNat,by omega⟩
          rw[hp]at hcx hpb hsn
          rw[yEG]at hsn
          obtain⟨hp0,hpW⟩:=hpb
          have hcl:wr.cell? ⟨kb5,ko5,none⟩=some (.slice ra5 rn5 rc5):=(hb35.cell (p:=⟨kb5,ko5,none⟩) HKB.out).trans hkc5
          obtain⟨b8,o8,e8,_,hc8⟩:=(HRI.out.below hb35) q (by rw[HRN.out];exact hlq)
          subst e8
          obtain⟨z,hz⟩:=exq (l0[q]?.getD 0)
          rw[<- hz]at hc8 hsn
          have hlenF:(zAK W x l0 q).length=W:=zCJ _ _ _ _
          have hpW':p<W:=by omega
          have hoc:=hr.cell (j:=p) (by rw[hlenF];exact hpW')
          obtain⟨y,hy⟩:=exq ((zAK W x l0 q)[p]?.getD 0)
          rw[<- hy]at hoc
          have hof:=hr.frozen p
          have hlt3:=hr.lt
          have HSET:=hid (hr.set p (by rw[hlenF];exact hpW') z)
          rw[<- hsn]at HSET
          have HKP:=hid hkp
          have i1:(0:Int)<=(q:Int):=by omega
          have i2:(q:Int)<(rn5:Int):=by omega
          clear hxq hp hz hy hsn hqx hlenF hr hkp hb35 hbY
          gi_wp2
          exact⟨⟨q+1,hlq,by first|rfl|exact cast1 q,HSET.out,HKP.out.trans (Keep.set _ _ _ _)⟩,meas hlq⟩
         ·obtain rfl:q=rn5:=by omega
          have hB3q:=HB3.out.size
          have hlen:=zCJ W x l0 q
          have HPR:=hid (fun(X':World) (hX:zBD X' w3.heap.size (zAK W x l0 q))=>primitive_c X' w3.heap.size W W (zAK W x l0 q) hlen (le_max (yAF hc10 (by decide))) hX (fun y hy=>by
           have h1:=zKJ (P:=fun z=> -518400<=z∧z<=518400) (by decide) HL0.out.2 q y hy
           exact⟨Int.le_trans (by decide) h1.1,Int.le_trans h1.2 (by decide)⟩))
          have HYB:=hid hbY
          have HHR:=hid hr
          have HH35:=hid hb35
          have hss:=hr.lt
          obtain⟨v,y1,y6,y7,yB,yS,yR,yD⟩:=HYI.out
          have y7c:=y7.cell
          have HS7:=hid (fun(X':World) (hX:Below Y.heap.size Y X')=>HCY.out X' _ _ _ hX y7c)
          have HYR:=hid yR
          have HY7:=hid y7
          clear hr hkp hb35 y1 y6 yB yS yR yD y7 y7c hlen
          gi_wp2
          refine round_region (fun j w'=>decide (j<5)=true->w'.cell? ⟨w1.heap.size+1,0,none⟩=some v) l' 0 (by kernel_rfl) (by kernel_rfl) (fun⟨_,_,h⟩=>h) ?_
          have hHd:zBD wr.drew w3.heap.size (zAK W x l0 q):=HHR.out
          have hYd:Below Y.heap.size Y wr.drew:=HYB.out.drew
          have hsd:w3.heap.size<wr.drew.heap.size:=hss
          generalize wr.drew=wd at hHd hYd hsd⊢
          have hv0:=HS7.out wd hYd
          refine AnyT.tD (i:=0) (v:=v) rfl rfl (by rintro w' q5;go_simp) hv0 ?_;go_frame
          refine AnyT.tD (i:=1) (v:=.slice (some ⟨w3.heap.size,0,none⟩) W W) rfl rfl (by rintro w' q5;go_simp) hv0 ?_;go_frame
          refine AnyT.nx (i:=2) rfl ?_
          go_wp2_with (go_at_call 181;refine(HPR.out wd hHd).mono ?_;rintro e w7 ⟨rfl,hs7,hk7⟩;refine Stop.of ?_)
          refine Stop.go ?_
          have hY7:Below Y.heap.size Y w7:=hk7.below hYd hYd.size (fun k hk=>Nat.ne_of_lt (yAJ hk hB3q))
          have hv7:=HS7.out w7 hY7
          go_wp2
          refine⟨fun _=>hv7,?_⟩
          refine AnyT.nx (i:=3) rfl ?_
          go_wp2
          have hb78:Below w7.heap.size w7 (w7.alloc (.cells #[.slice (some ⟨w3.heap.size,0,none⟩) W W] 24)):=(Below.refl _ _).alloc (yAC _) _
          have hY8:=zAA hY7 hb78
          refine⟨fun _=>HS7.out _ hY8,?_⟩
          refine AnyT.nx (i:=4) rfl ?_
          obtain⟨vs,ho,hg,he⟩:=HYR.out.keep (Keep.of_below hY7:Keep _ Y w7)
          obtain⟨C,hC⟩:=exq ((zGX M W t++pre.filterMap (zCA M W)))
          rw[<- hC]at ho he
          have hCn:C.length<=20000:=by rw[hC];exact HCN.out
          have hfin:zGX M W t++(pre++[x]).filterMap (zCA M W)=C++[zGC (zAK W x l0 q)]:=by rw[HFI.out,HSOME.out,<- yBZ,<- hC,HT.out];rfl
          have hrl:(zGC (zAK W x l0 q)).length=W:=by rw[primV_len];exact zCJ _ _ _ _
          obtain⟨P,hP⟩:=exq (zGC (zAK W x l0 q))
          rw[<- hP]at hfin hrl hs7
          have M1:=hid (show C.length+1<=maxLen from le_max (yAF (Nat.succ_le_succ hCn) (by decide)))
          have M2:=hid (show(C.length+1)*24<=140737488355328 from yAF (yFB 24 (Nat.succ_le_succ hCn)) (by decide))
          have M3:=hid (show w2.heap.size<=(w7.alloc (.cells #[.slice (some ⟨w3.heap.size,0,none⟩) W W] 24)).heap.size from yAF (yAF hXS (yAF (Nat.le_add_right _ _) (yAF hitZ (yFH hity)))) hY8.size)
          have HO:=hid ho
          have HG:=hid hg
          have HE:=hid he
          have HFIN:=hid hfin
          have HRL:=hid hrl
          have HS7':=hid hs7
          have HY7':=hid hY7
          clear ho hg he hfin hrl hs7 hP hC hY7 hv7
          (refine zAN _ rfl (.tmp 69) (.tmp 72) 22 rfl w2.heap.size 24 (.slice none 0 0) 1 24 Tryz.underlying22 zEP rfl yBH v C.length vs rfl (HO.out.alloc _) (some ⟨w7.heap.size,0,none⟩) 1 1 [.slice (some ⟨w3.heap.size,0,none⟩) W W] rfl rfl zBS (zBC w7 _ _) (zBL _ _ _) M1.out M2.out M3.out ?_)
          intro a5 c5 w9 own5 g5
          have hn7:some (w1.heap.size+1)≠v.ownBlock:=fun e=>by
           have h1:=(HO.out.lt _ e.symm).1
           rw[HS2.out]at h1
           exact absurd h1 (Nat.not_le_of_lt (yEM _))
          have hB79:Boxed w9 (w1.heap.size+1) 22 v:=(g5.block _ (by rw[World.size_alloc];exact yFR (yAJ HY7.out.lt HY7'.out.size)) hn7).trans ((Below.heap_alloc _ _ _ (yAJ HY7.out.lt HY7'.out.size)).trans ((HY7'.out.block _ HY7.out.lt).trans HY7.out))
          have hc9:=hB79.cell
          have hf9:=hB79.frozen
          refine And.intro (fun _=>hc9) ?_
          have HOWN5:=hid own5
          have HG5:=hid g5
          clear own5 g5 hn7 hB79
          refine AnyT.nx (i:=5) rfl ?_
          go_wp2
          refine⟨fun h=>absurd h (by decide),by kernel_rfl,?_⟩
          obtain⟨v',y1,y6,y7,yB,yS,yR,yD,z0,z1⟩:=HYI.out
          have hpush:=circ_push (r:=P) (cap:=W) y1 y6 HY7.out yB yS yD z0 z1 (by rw[HS2.out];exact Nat.lt_trans hsw (yFR (yEM _))) (by rw[HS2.out];exact yFR (yEM _)) (by rw[HS2.out];exact yEM _) hXS (Nat.le_succ_of_le (yFH hsw)) (Nat.ne_of_lt (yFR hsw)) (Nat.ne_of_lt (yEM _)) HX.out hitZ hity HD.out HLo.out
           HY7'.out HO.out HG.out HE.out HS7'.out hB3q (by rw[HRL.out];exact le_max (yAF hc10 (by decide))) HG5.out (by rw[HRL.out];exact HOWN5.out)
          rw[<- HFIN.out]at hpush
          exact hpush
       ·rw[h0]at HCV
        have HNO:=hid (HZ.out h0)
        clear h0 HYY HZ
        gi_wp2_with (refine⟨trivial,rfl,?_⟩;gi_at_call 180;refine(CallsIn.inRound l' (callsIn_wide.2 HCV.out)).mono ?_;rintro e w4 ⟨rfl,rfl⟩)
        exact POST.out _ HB3.out HNO.out
      ·obtain⟨kl,hkl⟩:=exq (Kx.length)
       have hne:((kl:Int) !=1)=true:=ne_one (by rw[hkl];exact hk1)
       have HNO:=hid (HKN.out hk1)
       have HKL:=hid hkl
       clear hk1 hkl
       gi_wp2_with (refine⟨trivial,rfl,?_⟩;gi_at_call 179;refine(CallsIn.inRound l' (callsIn_wide.2 PK.out)).mono ?_;rintro e w3 ⟨v3,base3,rfl,hbs3,hO3,hb3⟩;refine Stop.of ?_)
       refine Stop.go ?_
       obtain⟨ka,kc,rfl,hKR⟩:=hO3.rows (fun r hr=>le_max (yAF (yGM (HKF.out r hr).1) (yAF ht1k (by decide))))
       rw[<- HKL.out]
       gi_wp2
       refine⟨trivial,?_⟩
       gi_wp2
       exact POST.out _ hb3 HNO.out
     case done=>
      rintro it Y hit ⟨v,y1,y6,y7,yB,yS,yR,yD,_,_⟩ hK
      rw[hsz]at hit hK⊢
      gi_wp2
      rw[HI.out,HMU.out,cast1]
      refine⟨⟨_,_,_,_,_,_,_,_,_,_,_,_,_,_,_,_,_,_,_,_,_,_,_,_,_,_,_,_,_,_,_,_,_,_,_,_,_,_,_,_,_,_,_,_,_,_,_,_,_,_,_,_,_,_,_,_,_,_,_,_,_,_,_,_,_,_,_,_,_,_,_,t+1,_,v,hlt,y1,y6,y7,yB,yAF hXS (yAF (Nat.le_add_right _ _) yS),?_,?_,rfl⟩,?_⟩
      ·rw[zOK]
       exact yR.mono fun q hq=>hq.1
      ·exact⟨X.heap.size+2,yAF hXS (Nat.le_add_right _ _),(yAB.1 hK).1,rfl,hK,yD.up (Nat.le_add_right _ _)⟩
      ·exact meas2 hlt
     case stop=>intro c pre W _ h _;exact h.elim
    ·obtain rfl:t=N:=by omega
     gi_wp2
     obtain⟨hX1,hX6,hX7,hXB,hXS,hXR,hXD⟩:=HXX.out
     rw[HNC.out]
     refine zFO.leave D X.heap.size X hXD fun w' hk=>?_
     refine⟨_,results_tmp2 rfl _ _ _,v,w2.heap.size,by have:=HS2.out;omega,?_,rfl,?_⟩
     ·exact hk.below hXB hXB.size (fun k hk=>.inl (yAJ hk HBW2.out.size))
     ·exact hXR.keepT hk
end
section
open Go.RowKit
def twoM:Mask:=[[1,1,0],[0,1,1]]
theorem two_rows(w:World):zAM (((w.alloc (.cells #[.int .i64 1,.int .i64 1,.int .i64 0] 3)).alloc (.cells #[.int .i64 0,.int .i64 1,.int .i64 1] 3)).alloc (.cells #[.slice (some ⟨w.heap.size,0,none⟩) 3 3,.slice (some ⟨w.heap.size+1,0,none⟩) 3 3] 24)) (some ⟨w.heap.size+2,0,none⟩) twoM:=by
 obtain⟨w1,h1⟩:=exq (w.alloc (.cells #[.int .i64 1,.int .i64 1,.int .i64 0] 3))
 obtain⟨w2,h2⟩:=exq (w1.alloc (.cells #[.int .i64 0,.int .i64 1,.int .i64 1] 3))
 rw[<- h1,<- h2]
 have s1:w1.heap.size=w.heap.size+1:=by rw[h1];simp
 have s2:w2.heap.size=w.heap.size+2:=by rw[h2];simp[s1]
 have i1:zAH w1 (some ⟨w.heap.size,0,none⟩) [1,1,0]:=fun j hj=>⟨w.heap.size,0,rfl,by omega,by
  rw[h1,World.cell?_alloc_at _ _ _ _ (by simp)]
  match j,hj with
  |0,_=>rfl
  |1,_=>rfl
  |2,_=>rfl⟩
 have i2:zAH w2 (some ⟨w1.heap.size,0,none⟩) [0,1,1]:=fun j hj=>⟨w1.heap.size,0,rfl,by omega,by
  rw[h2,World.cell?_alloc_at _ _ _ _ (by simp)]
  match j,hj with
  |0,_=>rfl
  |1,_=>rfl
  |2,_=>rfl⟩
 rw[s1]at i2
 have b2:Below w1.heap.size w1 w2:=by rw[h2];exact(Below.refl _ _).alloc (yAC _) _
 obtain⟨o,ho⟩:=exq (Obj.cells #[.slice (some ⟨w.heap.size,0,none⟩) 3 3,.slice (some ⟨w.heap.size+1,0,none⟩) 3 3] 24)
 rw[<- ho]
 have b3:Below w2.heap.size w2 (w2.alloc o):=(Below.refl _ _).alloc (yAC _) _
 have hc:∀j,(w2.alloc o).cell? ⟨w.heap.size+2,j,none⟩=#[Value.slice (some ⟨w.heap.size,0,none⟩) 3 3,.slice (some ⟨w.heap.size+1,0,none⟩) 3 3][j]? :=fun j=>by
  rw[ho,World.cell?_alloc_at _ _ _ _ (by rw[s2])]
 intro j hj
 match j,hj with
 |0,_=>exact⟨_,0,some ⟨w.heap.size,0,none⟩,3,3,rfl,by simp[s2],hc 0,rfl,by decide,(i1.below b2).below b3⟩
 |1,_=>exact⟨_,0,some ⟨w.heap.size+1,0,none⟩,3,3,rfl,by simp[s2],hc 1,rfl,by decide,i2.below b3⟩
end
section
open Go.RowKit
def SomeB(e:Ending):Prop:=∃b,e=.returned (.bool b)
theorem rows_one{W:World}{a2:Option Addr}{n2 cap2:Nat}{h:List Int}(hn2:h.length=n2)(hm2:n2<=maxLen)(H2:zAH W a2 h):
 zAM (W.alloc (.cells #[.slice a2 n2 cap2] 24)) (some ⟨W.heap.size,0,none⟩) [h]:=by
 have hb:Below W.heap.size W (W.alloc (.cells #[.slice a2 n2 cap2] 24)):=(Below.refl _ _).alloc (yAC _) _
 intro j hj
 match j,hj with
 |0,_=>exact⟨_,0,a2,n2,cap2,rfl,by simp,by rw[World.cell?_alloc_at _ _ _ _ rfl];rfl,hn2,hm2,H2.below hb⟩
end
end Go.Proofs.YtlffndehhhpgjaaGreat
