/- Walks and plain laws for DualBrightRow, part 4. -/
import Derived.Maps.RangeWalk
import Derived.Deep.CutRange
import Derived.Test.YtlffndehhhpgjaaGreatPkDualBrightRow3
namespace Go.Proofs.YtlffndehhhpgjaaGreat
set_option linter.unusedVariables false
set_option linter.unusedSimpArgs false
set_option maxRecDepth 100000
set_option maxHeartbeats 4000000
open _root_.List renaming getElem?_eq_getElem → yAA, getElem_mem → yAH, take_succ_eq_append_getElem → yAI, take_of_length_le → yAL, mem_iff_getElem → yAM, length_append → yAN, length_map → yAS, length_take → yAU, getElem?_map → yAZ, append_nil → yBC, map_append → yBF, mem_map → yBJ, range_succ → yBQ, ext_getElem → yCC, filter_append → yCK, getElem?_take_of_lt → yCN, length_singleton → yDB, length_drop → yDF, getElem?_set_self → yDK, any_eq_true → yDO, getElem_set_ne → yDP, getElem_of_mem → yDQ, drop_eq_nil_of_le → yEC, length_filter_le → yEK, length_set → yFE, getElem_drop → yFF, contains_iff_mem → yFP, map_cons → yFS
open _root_.Nat renaming le_refl → yAC, le_trans → yAF, zero_le → yAK, mul_le_mul → yAV, zero_add → yAW, one_pos → yBH, eq_zero_or_pos → yBR, le_of_eq → yGM
open _root_.Int renaming natAbs_mul → yAR, lt_or_le → yBK, gcd_pos_of_ne_zero_left → yEV, dvd_refl → yFI, le_of_dvd → yFV
open _root_.Array renaming toList_inj → yEO
open _root_.Option renaming getD_some → yBA, map_some → yFD
section
open Go.RowKit
theorem zDN:(Tryz.prog.info? 3).map (fun i=>(i.zero,i.size,i.bytes))=some (some (.int .i64 0),1,8):=by kernel_rfl
theorem zEP:(Tryz.prog.info? 24).map (fun i=>(i.zero,i.size,i.bytes))=some (some (.slice none 0 0),1,24):=by kernel_rfl
theorem zEL(x:Int):∀u∈[Value.int .i64 x],u.oneCell'=true:=by intro u hu;simp at hu;subst hu;rfl
def PredRok(P:Program)(g:Nat)(lb:Array Value)(w:World)(ok:List Int->Prop)(p:List Int->Bool):Prop:=
 ∀(l:List Int) (v:Value) (W:World),ok l->Below w.heap.size w W->SlV W v l->Calls P g (#[v]++lb) W fun e W'=>e=.returned (.bool (p l))∧Below W.heap.size W W'
theorem indexRok(w:World)(a:Option Addr)(n cap:Nat)(l:List (List Int))(hn:l.length=n)(hm:n<=maxLen)(H:zAM w a l)(g:Nat)(lb:Array Value)(ok:List Int->Prop)(p:List Int->Bool)
 (eg:∀args w,(callFunc g args).run Tryz.prog w=.ok (.enter g args) w)(hp:PredRok Tryz.prog g lb w ok p)(hok:∀x∈l,ok x):
 Calls Tryz.prog 228 #[.slice a n cap,.func (.func g) #[] lb] w fun e w'=>e=.returned (.int .i64 (idxP p l 0))∧Below w.heap.size w w':=by
 have HN:=hid hn
 have HH:=hid H
 have HP:=hid hp
 have HOK:=hid hok
 clear hn H hp hok
 unfold maxLen at hm
 go_enter Tryz.func228,Tryz.ntmps228
 go_wp2
 go_loopw [8] (fun i wr=>∃k:Nat,k<=n∧i=.int .i64 k∧Below w.heap.size w wr∧∀i y,i<k->l[i]? =some y->p y=false) (fun i _=>n-(intOf i).toNat)
 case atStart=>exact⟨0,yAK _,rfl,Below.refl _ _,fun i y h=>by omega⟩
 case round=>
  obtain⟨k,hk,rfl,hb,hno⟩:=hrel
  have HNO:=hid hno
  clear hno
  by_cases hlt:k<n
  ·have hkl:k<l.length:=by rw[HN.out];exact hlt
   obtain⟨b,off,ra,rn,rc,rfl,hbs,h0,hrn,hrm,hri⟩:=(HH.out.below hb) k hkl
   have HV:=hid (show SlV wr (.slice ra rn rc) l[k]from⟨ra,rn,rc,rfl,hrn,hrm,hri⟩)
   clear hrn hri
   have HK:=hid (yAA hkl)
   have HO:=hid (HOK.out _ (yAH hkl))
   cases hpx:p l[k]
   ·go_wp2_with (refine(HP.out _ _ _ HO.out hb HV.out).mono ?_;rintro e w1 ⟨rfl,hb1⟩)
    refine⟨⟨k+1,by omega,by go_num,zAA hb hb1,?_⟩,by simp[intOf];omega⟩
    intro i y hi hy
    by_cases e:i=k
    ·subst e;rw[HK.out]at hy;cases hy;exact hpx
    ·exact HNO.out i y (by omega) hy
   ·go_wp2_with (refine(HP.out _ _ _ HO.out hb HV.out).mono ?_;rintro e w1 ⟨rfl,hb1⟩)
    go_ret
    refine⟨zDC ?_,zAA hb hb1⟩
    rw[zIW p l 0 k _ HK.out hpx HNO.out];simp
  ·go_wp2
   go_ret
   refine⟨zDC ?_,hb⟩
   rw[zGR]
   intro x hx
   obtain⟨i,hi,e⟩:=yDQ hx
   exact HNO.out i x (by have:=HN.out;omega) (by rw[yAA hi,e])
theorem zNY{α:Type}(p:α->Bool):∀(l:List α) (k:Nat),idxP p l k=match l.findIdx? p with|some i=>((k+i:Nat):Int)|none=> -1
 | [],k=>rfl
 |x::l,k=>by
  unfold idxP
  rw[List.findIdx?_cons]
  by_cases h:p x=true
  ·rw[if_pos h,if_pos h];simp
  ·rw[if_neg h,if_neg h,zNY p l (k+1)]
   cases l.findIdx? p with
   |none=>rfl
   |some i=>simp only[yFD];congr 1;omega
theorem reduce1(w:World)(b j:Nat)(hb:b<w.heap.size)(hc:w.cell? ⟨b,0,none⟩=some (.int .i64 j)):PredRok Tryz.prog 229 #[.pointer (some ⟨b,0,none⟩)] w (fun l=>j<l.length) (nz j):=by
 intro l v W hj hbw hv
 have hc':W.cell? ⟨b,0,none⟩=some (.int .i64 j):=(hbw.cell (p:=⟨b,0,none⟩) hb).trans hc
 obtain⟨ra,rn,rc,rfl,hrn,hrm,hri⟩:=hv
 obtain⟨b',off,rfl,hbs,hq⟩:=hri j hj
 have HNZ:=hid (show nz j l=decide (l[j]?.getD 0≠0)from rfl)
 obtain⟨x,hx⟩:=exq (l[j]?.getD 0)
 rw[<- hx]at hq HNZ
 have hjn:j<rn:=by omega
 unfold maxLen at hrm
 clear hx hri hrn hc hj
 by_cases h0:x=0
 all_goals
  have hd:(x !=0)=decide (x≠0):=by rw[Bool.eq_iff_iff];simp
  have HX:=hid h0
  first
   |rw[decide_eq_false (by simpa using h0)]at hd
   |rw[decide_eq_true h0]at hd
  clear h0
  go_enter Tryz.func229,Tryz.ntmps229
  go_wp2
  go_ret
  exact⟨zAP (by rw[HNZ.out];have:=HX.out;simp[this]),Below.refl _ _⟩
def zBX(L:List (List Int))(p:List Int)(k j i:Nat):List (List Int):=L.mapIdx (fun q row=>if q<i then zFU p k j q row else row)
theorem zOI(L:List (List Int))(p:List Int)(k j i:Nat):(zBX L p k j i).length=L.length:=by simp[zBX]
theorem clearTo_zero(L:List (List Int))(p:List Int)(k j:Nat):zBX L p k j 0=L:=by
 refine yCC (by simp[zBX]) fun i h1 h2=>?_
 simp[zBX]
theorem clearTo_all(L:List (List Int))(p:List Int)(k j:Nat):zBX L p k j L.length=L.mapIdx (zFU p k j):=by
 refine yCC (by simp[zBX]) fun i h1 h2=>?_
 have:i<L.length:=by simpa using h2
 simp[zBX,this]
theorem zFM{L:List (List Int)}{p:List Int}{k j i q:Nat}(hq:q<L.length):(zBX L p k j i)[q]'(by rw[zOI];exact hq)=if q<i then zFU p k j q L[q]else L[q]:=by simp[zBX]
theorem clearTo_set{L:List (List Int)}{p:List Int}{k j i:Nat}(hi:i<L.length):(zBX L p k j i).set i (zFU p k j i L[i])=zBX L p k j (i+1):=by
 refine yCC (by simp[zBX]) fun q h1 h2=>?_
 have hq:q<L.length:=by simpa[zBX]using h2
 rw[List.getElem_set]
 by_cases e:i=q
 ·subst e;rw[if_pos rfl,zFM hi,if_pos (by omega)]
 ·rw[if_neg e,zFM hq,zFM hq]
  by_cases c:q<i
  ·rw[if_pos c,if_pos (by omega)]
  ·rw[if_neg c,if_neg (by omega)]
def Out(base top:Nat)(k:Nat):Prop:=k<base∨top<=k
theorem pRed_K(L:List (List Int)):∀t,(pRed L t).2.length<=L.length
 |0=>yAK _
 |t+1=>by
  rw[zJJ]
  have h:=pRed_K L t
  have hl:=zEJ L t
  unfold zNG
  split
  ·exact h
  ·rename_i a ha
   obtain⟨h1,_⟩:=zHO ha
   rw[yDF]at h1
   simp only[yAN,yDB]
   omega
theorem rows_drop{w:World}{g0:Nat}{L:List (List Int)}(h:zAM w (some ⟨g0,0,none⟩) L)(k:Nat):zAM w (some ⟨g0,k,none⟩) (L.drop k):=by
 intro j hj
 have hjk:k+j<L.length:=by rw[yDF]at hj;omega
 obtain⟨b,off,ra,n,cap,e,hlt,h0,hn,hm,hi⟩:=h (k+j) hjk
 cases e
 refine⟨g0,k,ra,n,cap,rfl,hlt,by simpa using h0,?_,hm,?_⟩<;>simp only[yFF]<;>assumption
theorem zPQ{R:List (List Int)}{J:List Nat}{j:Nat}(h:(R.drop J.length).findIdx? (nz j)=none):zNG (R,J) j=(R,J):=by
 unfold zNG;simp only[h]
theorem pStep_some{R:List (List Int)}{J:List Nat}{j a:Nat}(h:(R.drop J.length).findIdx? (nz j)=some a):zNG (R,J) j=(zDK (zGY R J.length (J.length+a)) J.length j,J++[j]):=by
 unfold zNG;simp only[h]
theorem zQV(w:World)(base:Nat)(v0:Value)(L:List (List Int))(W:Nat)(hO:OwnT w base w.heap.size v0 L)(hbase:base<=w.heap.size)(hw:∀r∈L,r.length=W)(hW:W<=1000)(hN:L.length<=6)(hN1:0<L.length)(n:Nat)(hn:n<=W)
 (hB:∀t,t<=n->∀r∈(pRed L t).1,r.length=W∧BndL 1073741824 r):
 Calls Tryz.prog 195 #[v0,.int .i64 n] w fun e w'=>∃v,e=.returned v∧w'.ownsRow w.heap.size 3 1 v (pRed L n).2.length ((pRed L n).2.map (fun j:Nat=>Value.int .i64 j))∧OwnT w' base w.heap.size v0 (pRed L n).1∧Below base w w':=by
 have HO:=hid hO
 have HB:=hid hB
 have HL:=hid (fun t=>zEJ L t)
 have HBA:=hid hbase
 have HSU:=hid (fun t=>zJJ L t)
 obtain⟨g0,cap,_,_,hv,_⟩:=hO.at 0 hN1
 subst hv
 obtain⟨N,hNe⟩:=exq (L.length)
 rw[<- hNe]at HO HL hN hN1⊢
 have HN:=hid hNe
 have HW:=hid hw
 clear hO hB hbase hNe hw
 go_enter Tryz.func195,Tryz.ntmps195
 go_wp2
 go_loopw [5,13] (fun v i wr=>∃j:Nat,j<=n∧i=.int .i64 j∧wr.ownsRow w.heap.size 3 1 v (pRed L j).2.length ((pRed L j).2.map (fun j:Nat=>Value.int .i64 j))∧OwnT wr base w.heap.size (.slice (some ⟨g0,0,none⟩) N cap) (pRed L j).1∧Below base w wr) (fun _ i _=>n-(intOf i).toNat)
 case atStart=>exact⟨0,yAK _,rfl,World.ownsRow_nil _ _ _ _,HO.out,Below.refl _ _⟩
 case round=>
  obtain⟨j,hj,rfl,hown,hT,hbk⟩:=hrel
  obtain⟨wo,hwo⟩:=exq (wr)
  subst hwo
  by_cases hlt:j<n
  ·have hlt':(j:Int)<(n:Int):=by omega
   have hrl:=HL.out j
   have hKN:=pRed_K L j
   have hsu:=HSU.out j
   have hbnd:=HB.out j (by omega)
   have hbnd2:=HB.out (j+1) (by omega)
   rw[hsu]at hbnd2
   have HSJ:=hid hsu
   obtain⟨R,hR⟩:=exq ((pRed L j).1)
   obtain⟨J,hJ⟩:=exq ((pRed L j).2)
   have hRJ:pRed L j=(R,J):=by rw[hR,hJ]
   rw[hRJ]at hbnd2
   rw[hRJ]at HSJ
   rw[<- hR]at hrl hT hbnd
   rw[<- hJ]at hown hKN
   rw[<- HN.out]at hKN
   obtain⟨K,hK⟩:=exq (J.length)
   rw[<- hK]at hown hKN
   have HK:=hid hK
   have HRL:=hid hrl
   have HBD:=hid hbnd
   have HBD2:=hid hbnd2
   have HT:=hid hT
   have HBK:=hid hbk
   have hsz:=hbk.size
   obtain⟨vp,vcap,rfl⟩:=zAC hown
   have HOW:=hid hown
   have hrows:=hT.rowsAt hrl (fun r hr=>by rw[(hbnd r hr).1];unfold maxLen;omega)
   obtain⟨_,_,_,hNc,hcm,hfz0,_⟩:=hT.info hrl
   unfold maxLen at hcm
   have HFZ:=hid hfz0
   have hbx:Below wo.heap.size wo (wo.alloc (.cells #[.int .i64 j] 3)):=(Below.refl _ _).alloc (yAC _) _
   have HPR:=hid (reduce1 (wo.alloc (.cells #[.int .i64 j] 3)) wo.heap.size j (by simp) (by rw[World.cell?_alloc_at _ _ _ _ rfl];rfl))
   have HRW:=hid (rows_drop (hrows.below hbx) K)
   have HBX:=hid hbx
   clear hsu hR hJ hRJ hK hrl hbnd hbnd2 hown hT hbk hrows hbx
   by_cases hKlt:K<N
   ·have hk1:(0:Int)<=(K:Int):=by omega
    have hk2:(K:Int)<=(N:Int):=by omega
    have hcK:¬(cap=K):=by omega
    have HI:=hid (indexRok (wo.alloc (.cells #[.int .i64 j] 3)) (some ⟨g0,K,none⟩) (N-K) (cap-K) (R.drop K) (by rw[yDF,HRL.out]) (by unfold maxLen;omega) HRW.out 229 #[.pointer (some ⟨wo.heap.size,0,none⟩)] _ _ (enters_of Tryz.func229 (by kernel_rfl) rfl) HPR.out (fun x hx=>by have:=(HBD.out x (List.mem_of_mem_drop hx)).1;omega))
    rw[zNY]at HI
    cases hf:(R.drop K).findIdx? (nz j)with
    |none=>
     rw[hf]at HI
     simp only[]at HI
     have HE:=hid (show pRed L (j+1)=(R,J)by rw[HSJ.out];exact zPQ (by rw[<- HK.out];exact hf))
     clear hf HPR HRW hfz0
     go_wp2_with (go_at_call 228;refine HI.out.mono ?_;rintro e w1 ⟨rfl,hb1⟩)
     have hbw:=zAA HBX.out hb1
     refine⟨⟨j+1,by omega,by go_num,?_,?_,?_⟩,by simp[intOf];omega⟩
     ·rw[HE.out]
      simp only[]
      rw[<- HK.out]
      exact zBJ HOW.out hbw
     ·rw[HE.out]
      exact HT.out.keep fun k _ _ hk=>hbw.block k hk
     ·exact HBK.out.trans (hbw.mono HBK.out.size |>.mono (by have:=HBA.out;omega))
    |some a=>
     rw[hf]at HI
     simp only[yAW]at HI
     have HE:=hid (show pRed L (j+1)=(zDK (zGY R K (K+a)) K j,J++[j])by rw[HSJ.out,pStep_some (by rw[<- HK.out];exact hf),<- HK.out])
     obtain⟨ha1,ha2⟩:=zHO hf
     rw[yDF,HRL.out]at ha1
     rw[yFF]at ha2
     have HA2:=hid ha2
     clear hf ha2 HPR HRW hfz0
     go_wp2_with (go_at_call 228;refine HI.out.mono ?_;rintro e w1 ⟨rfl,hb1⟩;refine Stop.of ?_)
     refine Stop.go ?_
     have hbw:=zAA HBX.out hb1
     have hbw':=hbw
     have hT1:OwnT w1 base w.heap.size (.slice (some ⟨g0,0,none⟩) N cap) R:=HT.out.keep fun k _ _ hk=>hbw.block k hk
     have hia:K+a<R.length:=by rw[HRL.out];omega
     have hiK:K<R.length:=by rw[HRL.out];omega
     obtain⟨gK,cK,c1,_,_,_,hsK,_⟩:=hT1.row HRL.out K hiK
     obtain⟨gA,cA,c2,_,_,_,hsA,_⟩:=hT1.row HRL.out (K+a) hia
     obtain⟨hdK,hhK⟩:=exq (Value.slice (some ⟨gK,0,none⟩) R[K].length cK)
     obtain⟨hdA,hhA⟩:=exq (Value.slice (some ⟨gA,0,none⟩) R[K+a].length cA)
     rw[<- hhK]at c1
     rw[<- hhA]at c2
     obtain⟨_,_,hg0,_,_,hz0,_⟩:=hT1.info HRL.out
     have HS:=hid (fun(X:World) (h:X.heap=w1.heap)=>show X.cell? ⟨g0,K,none⟩=some hdK∧X.cell? ⟨g0,K+a,none⟩=some hdA from⟨by unfold World.cell? at c1⊢;rw[h];exact c1,by unfold World.cell? at c2⊢;rw[h];exact c2⟩)
     have HZ:=hid hz0
     have hzK:=hz0 K
     have hzA:=hz0 (K+a)
     have HT1:=hid hT1
     have HHK:=hid hhK
     have HHA:=hid hhA
     have HC1:=hid c1
     have HC2:=hid c2
     have ha3:(0:Int)<=(K:Int)+(a:Int):=by omega
     have ha4:(K:Int)+(a:Int)<(N:Int):=by omega
     have ha5:(K:Int)<(N:Int):=by omega
     have HW:=hid (show IntKind.i64.wrap ((K:Int)+a)=(K:Int)+a from IntWalk.i64_in _ (by omega))
     clear hT1 hhK hhA hsK hsA hz0
     go_wp2
     have hwe:=HW.out
     refine zAG (fun j X=>w2 11 15 j=true->X.cell? ⟨g0,K,none⟩=some hdK∧X.cell? ⟨g0,K+a,none⟩=some hdA) (by kernel_rfl) ?_
     refine AnyT.takeP (i:=0) (v:=.slice (some ⟨g0,0,none⟩) N cap) rfl rfl rfl (by kernel_rfl) (by kernel_rfl) (by kernel_rfl) (by first|exact(fun _ _ _ h=>h)|exact(fun _ _ _ h=>absurd h.1 (by simp))) (by rfl) (by intro w';go_simp) ?_;go_frame
     refine AnyT.takeP (i:=1) (v:=.int .i64 K) rfl rfl rfl (by kernel_rfl) (by kernel_rfl) (by kernel_rfl) (by first|exact(fun _ _ _ h=>h)|exact(fun _ _ _ h=>absurd h.1 (by simp))) (by rfl) (by intro w';go_simp) ?_;go_frame
     refine AnyT.takeP (i:=2) (v:=.slice (some ⟨g0,0,none⟩) N cap) rfl rfl rfl (by kernel_rfl) (by kernel_rfl) (by kernel_rfl) (by first|exact(fun _ _ _ h=>h)|exact(fun _ _ _ h=>absurd h.1 (by simp))) (by rfl) (by intro w';go_simp) ?_;go_frame
     refine AnyT.takeP (i:=3) (v:=.int .i64 K) rfl rfl rfl (by kernel_rfl) (by kernel_rfl) (by kernel_rfl) (by first|exact(fun _ _ _ h=>h)|exact(fun _ _ _ h=>absurd h.1 (by simp))) (by rfl) (by intro w';go_simp) ?_;go_frame
     refine AnyT.takeP (i:=4) (v:=.int .i64 a) rfl rfl rfl (by kernel_rfl) (by kernel_rfl) (by kernel_rfl) (by first|exact(fun _ _ _ h=>h)|exact(fun _ _ _ h=>absurd h.1 (by simp))) (by rfl) (by intro w';go_simp) ?_;go_frame
     refine AnyT.takeP (i:=5) (v:=.int .i64 ((K:Int)+(a:Int))) rfl rfl rfl (by kernel_rfl) (by kernel_rfl) (by kernel_rfl) (by first|exact(fun _ _ _ h=>h)|exact(fun _ _ _ h=>absurd h.1 (by simp))) (by rfl) (by intro w';go_simp) ?_;go_frame
     refine AnyT.takeP (i:=6) (v:=.slice (some ⟨g0,0,none⟩) N cap) rfl rfl rfl (by kernel_rfl) (by kernel_rfl) (by kernel_rfl) (by first|exact(fun _ _ _ h=>h)|exact(fun _ _ _ h=>absurd h.1 (by simp))) (by rfl) (by intro w';go_simp) ?_;go_frame
     refine AnyT.takeP (i:=7) (v:=.int .i64 K) rfl rfl rfl (by kernel_rfl) (by kernel_rfl) (by kernel_rfl) (by first|exact(fun _ _ _ h=>h)|exact(fun _ _ _ h=>absurd h.1 (by simp))) (by rfl) (by intro w';go_simp) ?_;go_frame
     refine AnyT.takeP (i:=8) (v:=.int .i64 a) rfl rfl rfl (by kernel_rfl) (by kernel_rfl) (by kernel_rfl) (by first|exact(fun _ _ _ h=>h)|exact(fun _ _ _ h=>absurd h.1 (by simp))) (by rfl) (by intro w';go_simp) ?_;go_frame
     refine AnyT.takeP (i:=9) (v:=.int .i64 ((K:Int)+(a:Int))) rfl rfl rfl (by kernel_rfl) (by kernel_rfl) (by kernel_rfl) (by first|exact(fun _ _ _ h=>h)|exact(fun _ _ _ h=>absurd h.1 (by simp))) (by rfl) (by intro w';go_simp) ?_;go_frame
     refine AnyT.takeP (i:=10) (v:=.pointer (some ⟨g0,K+a,none⟩)) rfl rfl rfl (by kernel_rfl) (by kernel_rfl) (by kernel_rfl) (by first|exact(fun _ _ _ h=>h)|exact(fun _ _ _ h=>absurd h.1 (by simp))) (by rfl) (by intro w';go_simp) ?_;go_frame
     refine AnyT.takeP (i:=12) (v:=.slice (some ⟨g0,0,none⟩) N cap) rfl rfl rfl (by kernel_rfl) (by kernel_rfl) (by kernel_rfl) (by first|exact(fun _ _ _ h=>h)|exact(fun _ _ _ h=>absurd h.1 (by simp))) (by rfl) (by intro w';go_simp) ?_;go_frame
     refine AnyT.takeP (i:=13) (v:=.int .i64 K) rfl rfl rfl (by kernel_rfl) (by kernel_rfl) (by kernel_rfl) (by first|exact(fun _ _ _ h=>h)|exact(fun _ _ _ h=>absurd h.1 (by simp))) (by rfl) (by intro w';go_simp) ?_;go_frame
     refine AnyT.takeP (i:=14) (v:=.pointer (some ⟨g0,K,none⟩)) rfl rfl rfl (by kernel_rfl) (by kernel_rfl) (by kernel_rfl) (by first|exact(fun _ _ _ h=>h)|exact(fun _ _ _ h=>absurd h.1 (by simp))) (by rfl) (by intro w';go_simp) ?_;go_frame
     refine AnyT.takeS (i:=15) (v:=hdK) rfl rfl (by kernel_rfl) (by kernel_rfl) (by kernel_rfl) (by first|exact(fun _ _ _ h=>h)|exact(fun _ _ _ h=>absurd h.1 (by simp))) (by kernel_rfl) (by rfl) (by rintro w' ⟨q4,q5⟩;go_simp) (HS.out _ rfl) ?_;go_frame
     refine AnyT.takeS (i:=11) (v:=hdA) rfl rfl (by kernel_rfl) (by kernel_rfl) (by kernel_rfl) (by first|exact(fun _ _ _ h=>h)|exact(fun _ _ _ h=>absurd h.1 (by simp))) (by kernel_rfl) (by rfl) (by rintro w' ⟨q4,q5⟩;go_simp) (HS.out _ rfl) ?_;go_frame
     refine AnyT.takeP (i:=16) (v:=.pointer (some ⟨g0,K,none⟩)) rfl rfl rfl (by kernel_rfl) (by kernel_rfl) (by kernel_rfl) (by first|exact(fun _ _ _ h=>h)|exact(fun _ _ _ h=>absurd h.1 (by simp))) (by rfl) (by intro w';go_simp) ?_;go_frame
     obtain rfl:=HHA.out
     obtain rfl:=HHK.out
     refine AnyT.nx (i:=17) rfl ?_
     go_wp2
     refine⟨fun h=>absurd h (by decide),?_⟩
     refine AnyT.takeP (i:=18) (v:=.pointer (some ⟨g0,K+a,none⟩)) rfl rfl rfl (by kernel_rfl) (by kernel_rfl) (by kernel_rfl) (by first|exact(fun _ _ _ h=>h)|exact(fun _ _ _ h=>absurd h.1 (by simp))) (by rfl) (by intro w';go_simp) ?_;go_frame
     have hzA2:(w1.setCell ⟨g0,K,none⟩ (.slice (some ⟨gA,0,none⟩) R[K+a].length cA)).frozen? ⟨g0,K+a,none⟩=false:=by
      rw[World.frozen?_setCell];exact HZ.out _
     obtain⟨vy,hy⟩:=cell?_setCell_some (w:=w1) (p:=⟨g0,K,none⟩) (x:=.slice (some ⟨gA,0,none⟩) R[K+a].length cA) (q:=⟨g0,K+a,none⟩) (v:=.slice (some ⟨gA,0,none⟩) R[K+a].length cA) c2
     refine AnyT.nx (i:=19) rfl ?_
     go_wp2
     refine⟨fun h=>absurd h (by decide),?_⟩
     refine AnyT.done (by kernel_rfl) ?_ _
     obtain⟨hsw,hswk⟩:=HT1.out.swap hiK hia (by rw[HRL.out]) HC1.out HC2.out
     obtain⟨w2,hw2⟩:=exq (((w1.setCell ⟨g0,K,none⟩ (.slice (some ⟨gA,0,none⟩) R[K+a].length cA)).setCell ⟨g0,K+a,none⟩ (.slice (some ⟨gK,0,none⟩) R[K].length cK)).drew)
     rw[<- hw2]
     have hR2:(R.set K R[K+a]).set (K+a) R[K]=zGY R K (K+a):=by
      unfold zGY;rw[yAA hia,yAA hiK];rfl
     rw[hR2]at hsw
     have hT2:OwnT w2 base w.heap.size (.slice (some ⟨g0,0,none⟩) N cap) (zGY R K (K+a)):=by rw[hw2];exact hsw
     have hk2:Keep (fun k=>k≠g0) w1 w2:=by
      rw[hw2]
      exact(((Keep.set w1 g0 K _).trans (Keep.set _ g0 (K+a) _)).drewN 1)
     have hR2K:(zGY R K (K+a))[K]?.getD []=R[K+a]:=by
      rw[zMS hiK hia,if_pos rfl,yAA hia];rfl
     have hR2b:∀r∈zGY R K (K+a),r.length=W∧BndL 1073741824 r:=by
      intro r hr
      obtain⟨q,hq,rfl⟩:=yAM.1 hr
      rw[zHD]at hq
      have e:=zMS hiK hia q
      rw[yAA (by rw[zHD];exact hq)]at e
      simp only[yBA]at e
      rw[e]
      have hlt:(if q=K then K+a else if q=K+a then K else q)<R.length:=by split<;>(try split)<;>omega
      rw[yAA hlt]
      exact HBD.out _ (yAH hlt)
     have hR2l:(zGY R K (K+a)).length=N:=by rw[zHD,HRL.out]
     obtain⟨R2,hRe⟩:=exq (zGY R K (K+a))
     rw[<- hRe]at hT2 hR2K hR2b hR2l HE
     have HAA:=hid HA2.out
     have hbx2:w2.cell? ⟨wo.heap.size,0,none⟩=some (.int .i64 j):=by
      have hb0:w1.cell? ⟨wo.heap.size,0,none⟩=some (.int .i64 j):=by
       rw[hb1.cell (p:=⟨wo.heap.size,0,none⟩) (by simp),World.cell?_alloc_at _ _ _ _ rfl];rfl
      exact hk2.cell hb0 (by omega)
     have HBX2:=hid hbx2
     have HT2:=hid hT2
     have HK2:=hid hk2
     have HR2B:=hid hR2b
     have HR2L:=hid hR2l
     have hKR:K<R2.length:=by omega
     have hrow:R2[K]=R[K+a]:=by rw[<- hR2K,yAA hKR];rfl
     have HNZ:=hid (show vec R2[K] j≠0 by rw[hrow];simpa[nz]using HA2.out)
     obtain⟨gP,cP,c3,hP1,hP2,hP3,hsP,hput⟩:=hT2.row hR2l K hKR
     have hjl:j<R2[K].length:=by rw[(hR2b _ (yAH hKR)).1];omega
     have hPl:R2[K].length=W:=(hR2b _ (yAH hKR)).1
     have hPb:=(hR2b _ (yAH hKR)).2
     obtain⟨P,hP⟩:=exq (R2[K])
     rw[<- hP]at c3 hsP hput HNZ hjl hPl hPb
     have c4:=hsP.cell hjl
     have hPj:=hPb.get hjl
     obtain⟨x,hx⟩:=exq (P[j]?.getD 0)
     rw[<- hx]at c4 hPj
     have HX:=hid (show vec P j=x from hx.symm)
     rw[hPl]at c3
     have HSP:=hid hsP
     have HPUT:=hid hput
     have HP:=hid hP
     have HPL:=hid hPl
     have HPB:=hid hPb
     have HRE:=hid hRe
     have hjW:(j:Int)<(W:Int):=by omega
     have hj0:(0:Int)<=(j:Int):=by omega
     clear hw2 hsw hswk hR2 hT2 hk2 hR2K hR2b hR2l hRe hrow hsP hput hjl hPl hPb hx hP hbw c1 c2 hy hzK hzA hzA2 HZ HS HW HC1 HC2 HA2 HT1
     go_wp2
     go_quiet (fail)
     go_upto_if 50 with (fail)
     have HT3:=hid (show OwnT (w2.drewN nq) base w.heap.size (.slice (some ⟨g0,0,none⟩) N cap) R2 from HT2.out)
     have HK3:=hid (show Keep (fun k=>k≠g0) w1 (w2.drewN nq)from HK2.out.drewN nq)
     have HSP3:=hid (show zBD (w2.drewN nq) gP P from HSP.out)
     have HC3:=hid (show(w2.drewN nq).cell? ⟨g0,K,none⟩=some (.slice (some ⟨gP,0,none⟩) W cP)from c3)
     have HBX3:=hid (show(w2.drewN nq).cell? ⟨wo.heap.size,0,none⟩=some (.int .i64 j)from hbx2)
     have HPUT3:=hid (fun(w':World) (r':List Int) (h1:r'.length=P.length) (h2:zBD w' gP r') (h3:∀k,base<=k->k<w.heap.size->k<(w2.drewN nq).heap.size->k≠gP->w'.heap[k]? =(w2.drewN nq).heap[k]?)=>HPUT.out w' r' h1 h2 h3)
     clear HT2 HK2 HSP HBX2 HPUT c3 c4 hbx2
     generalize w2.drewN nq=w3 at HT3 HK3 HSP3 HC3 HBX3 HPUT3⊢
     go_cut [9,13]from 13 to 103 (fun s9 s13 wx=>s13=.int .i64 j∧OwnT wx base w.heap.size (.slice (some ⟨g0,0,none⟩) N cap) (R2.set K (posF P j))∧Keep (fun k=>k≠gP) w3 wx)
     case first=>
      by_cases hxn:x<0
      ·have c3:=HC3.out
       rw[show decide (x<0)=true from decide_eq_true hxn]
       have HXN:=hid hxn
       clear hxn
       go_wp2
       go_loopw [56] (fun i wz=>∃t:Nat,t<=W∧i=.int .i64 t∧zBD wz gP (zJQ (fun x=> -x) P t)∧Keep (fun k=>k≠gP) w3 wz) (fun i _=>W-(intOf i).toNat)
       case atStart=>exact⟨0,yAK _,rfl,by rw[zKW];exact HSP3.out,Keep.refl _ _⟩
       case round=>
        obtain⟨t,ht,rfl,hr,hkp⟩:=hrel
        by_cases hltt:t<W
        ·have htl:t<P.length:=by rw[HPL.out];exact hltt
         have d1:=hkp.cell HC3.out hP3
         have d2:=hr.cell (j:=t) (by rw[zGG];exact htl)
         rw[zRH _ htl]at d2
         have hz:=hr.frozen t
         have hbd:=HPB.out.get htl
         have hst:=zNZ (fun x=> -x) htl
         have HSET:=hid (fun(X:World) (hX:X.heap[gP]? =wr.heap[gP]?) v=>(hr.keep hX).set t (by rw[zGG];exact htl) v)
         have hgs:=hr.lt
         obtain⟨y,hy⟩:=exq (P[t]?.getD 0)
         rw[<- hy]at d2 hbd hst
         have HST:=hid hst
         have HKP:=hid hkp
         have hwn:IntKind.i64.wrap (-y)= -y:=IntWalk.i64_in _ (by omega)
         have ht0:(0:Int)<=(t:Int):=by omega
         have ht1:(t:Int)<(W:Int):=by omega
         have hk0:(K:Int)<(N:Int):=by omega
         clear hr hkp hst hy htl c3
         go_wp2
         go_still_tail 14,(by kernel_rfl)
         change wpList _ _ _ _ _ wr.drew
         go_wp2
         refine⟨⟨t+1,by omega,by go_num,?_,(HKP.out.drewN 1).trans (Keep.set wr.drew gP t _)⟩,by simp[intOf];omega⟩
         rw[<- HST.out]
         exact HSET.out wr.drew rfl _
        ·obtain rfl:t=W:=by omega
         go_wp2
         go_meet
         case rel=>
          refine⟨rfl,?_,hkp⟩
          rw[<- HPL.out,zOA]at hr
          have e:posF P j=P.map (fun x=> -x):=by unfold posF negF;rw[HX.out,if_pos HXN.out]
          rw[e]
          exact HPUT3.out _ _ (by simp) hr (fun k _ _ hk hne=>hkp.block k hk hne)
      ·rw[show decide (x<0)=false from decide_eq_false hxn]
       have HXN:=hid hxn
       clear hxn
       go_wp2
       go_meet
       case rel=>
        refine⟨rfl,?_,Keep.refl _ _⟩
        have e:posF P j=P:=by unfold posF;rw[HX.out,if_neg (by have:=HXN.out;omega)]
        rw[e]
        exact HPUT3.out _ _ rfl HSP3.out (fun k _ _ hk hne=>rfl)
     case rest=>
      obtain⟨rfl,hT4,hk4⟩:=hcut
      obtain⟨Pp,hPp⟩:=exq (posF P j)
      rw[<- hPp]at hT4
      have hPpl:Pp.length=W:=by rw[hPp,zJI,HPL.out]
      have hPpb:BndL 1073741824 Pp:=by
       intro y hy
       obtain⟨i,hi,rfl⟩:=yAM.1 hy
       obtain⟨z,hz,e⟩:=zJH P j
       have h1:=e i
       rw[<- hPp,zCV hi]at h1
       have h2:=HPB.out.get (k:=i) (by rw[HPL.out,<- hPpl];exact hi)
       have h3:vec P i=P[i]?.getD 0:=rfl
       rw[h1,h3]
       rcases hz with rfl|rfl<;>omega
      have hPpj:vec Pp j≠0:=by
       have:=zJG (l:=P) (j:=j) HNZ.out
       rw[<- hPp]at this;omega
      obtain⟨L3,hL3⟩:=exq (R2.set K Pp)
      have hL3l:L3.length=N:=by rw[hL3,yFE,HR2L.out]
      have hL3K:L3[K]? =some Pp:=by subst hL3;exact yDK hKR
      have hL3o:∀q (hq:q<L3.length),q≠K->(L3[q]).length=W∧BndL 1073741824 (L3[q]):=by
       intro q hq hne
       subst hL3
       rw[yDP (Ne.symm hne)]
       exact HR2B.out _ (yAH _)
      have hfin:(zDK R2 K j)=zBX L3 Pp K j N:=by
       rw[<- hL3l,clearTo_all,hL3]
       unfold zDK
       have:R2[K]?.getD []=P:=by rw[HP.out,yAA hKR];rfl
       rw[this,<- hPp]
      have HFIN:=hid hfin
      have HPPL:=hid hPpl
      have HPPB:=hid hPpb
      have HPPJ:=hid hPpj
      rw[<- hL3]at hT4
      have hcl0:zBX L3 Pp K j 0=L3:=clearTo_zero _ _ _ _
      have HT4:=hid (show OwnT wc base w.heap.size (.slice (some ⟨g0,0,none⟩) N cap) (zBX L3 Pp K j 0)by rw[hcl0];exact hT4)
      have HL3L:=hid hL3l
      have HL3K:=hid hL3K
      have HL3O:=hid hL3o
      have hbx4:wc.cell? ⟨wo.heap.size,0,none⟩=some (.int .i64 j):=hk4.cell HBX3.out (by omega)
      have HBX4:=hid hbx4
      have HK4:=hid (show Keep (Out base w.heap.size) w1 wc from(HK3.out.mono (fun k hk=>by rcases hk with h|h<;>omega)).trans (hk4.mono (fun k hk=>by rcases hk with h|h<;>omega)))
      clear hPp hPpl hPpb hPpj hL3l hL3K hL3o hfin hL3 hcl0 hT4 hbx4 hk4 HT3 HK3 HSP3 HC3 HBX3 HPUT3
      go_wp2
      go_loopw [76] (fun i wr=>∃t:Nat,t<=N∧i=.int .i64 t∧OwnT wr base w.heap.size (.slice (some ⟨g0,0,none⟩) N cap) (zBX L3 Pp K j t)∧Keep (Out base w.heap.size) wc wr) (fun i _=>N-(intOf i).toNat)
      case atStart=>exact⟨0,yAK _,rfl,HT4.out,Keep.refl _ _⟩
      case round=>
       obtain⟨t,ht,rfl,hTt,hkt⟩:=hrel
       by_cases hltt:t<N
       ·have htL:t<L3.length:=by rw[HL3L.out];exact hltt
        have hMl:(zBX L3 Pp K j t).length=N:=by rw[zOI,HL3L.out]
        obtain⟨gi,ci,d1,i1,i2,i3,hsp,hput⟩:=hTt.row hMl t (by rw[hMl];exact hltt)
        have hMt:(zBX L3 Pp K j t)[t]'(by rw[hMl];exact hltt)=L3[t]:=by rw[zFM htL,if_neg (by omega)]
        rw[hMt]at d1 hsp hput
        have hset:=clearTo_set (p:=Pp) (k:=K) (j:=j) htL
        have hself:(zBX L3 Pp K j t).set t L3[t]=zBX L3 Pp K j t:=by
         rw[<- hMt];exact List.set_getElem_self _
        have hbx5:wr.cell? ⟨wo.heap.size,0,none⟩=some (.int .i64 j):=hkt.cell HBX4.out (.inr (by omega))
        have HTT:=hid hTt
        have HKT:=hid hkt
        have ht0:(0:Int)<=(t:Int):=by omega
        have ht1:(t:Int)<(N:Int):=by omega
        by_cases htK:t=K
        ·have hb:((t:Int) !=(K:Int))=false:=by simp[htK]
         have hsame:zBX L3 Pp K j (t+1)=zBX L3 Pp K j t:=by
          rw[<- hset];unfold zFU;rw[if_neg (by simp[htK])];exact hself
         have HSM:=hid hsame
         have hlen:L3[t].length=W:=by
          have h1:=HL3K.out
          rw[<- htK,yAA htL]at h1
          rw[Option.some.inj h1,HPPL.out]
         rw[hlen]at d1
         clear htK hset hself hsame hTt hkt hput hsp hMt hlen htL hMl
         go_wp2
         refine⟨⟨t+1,by omega,by go_num,by rw[HSM.out];exact HTT.out,HKT.out⟩,by simp[intOf];omega⟩
        ·have hb:((t:Int) !=(K:Int))=true:=by simp;omega
         obtain⟨hlW,hlB⟩:=HL3O.out t htL htK
         obtain⟨X,hX⟩:=exq (L3[t])
         rw[<- hX]at d1 hsp hput hset hself hlW hlB
         have d2:=hsp.cell (j:=j) (by omega)
         obtain⟨y,hy⟩:=exq (X[j]?.getD 0)
         rw[<- hy]at d2
         have HY:=hid (show vec X j=y from hy.symm)
         have HTK:=hid htK
         have hMK:(zBX L3 Pp K j t)[K]'(by rw[hMl];exact hKlt)=Pp:=by
          have h1:=HL3K.out
          rw[yAA (by rw[HL3L.out];exact hKlt)]at h1
          rw[zFM (by rw[HL3L.out];exact hKlt)]
          have h2:L3[K]'(by rw[HL3L.out];exact hKlt)=Pp:=Option.some.inj h1
          rw[h2]
          split
          ·unfold zFU;rw[if_neg (by simp)]
          ·rfl
         obtain⟨gk,ck,e1,k1,k2,k3,hspk,hputk⟩:=hTt.row hMl K (by rw[hMl];exact hKlt)
         rw[hMK]at e1 hspk
         have hne:gi≠gk:=hTt.ne hMl (i:=t) (j:=K) (by rw[hMl];exact hltt) (by rw[hMl];exact hKlt) htK d1 e1
         rw[hlW]at d1
         rw[HPPL.out]at e1
         by_cases hy0:y=0
         ·have hyb:(y !=0)=false:=by simp[hy0]
          have hsame:zBX L3 Pp K j (t+1)=zBX L3 Pp K j t:=by
           rw[<- hset];unfold zFU;rw[if_neg (by rw[HY.out];simp[hy0])];exact hself
          have HSM:=hid hsame
          clear htK hset hself hsame hTt hkt hput hsp hMt hX hlW hlB hy hMK hspk hne hputk hy0 htL hMl
          go_wp2
          refine⟨⟨t+1,by omega,by go_num,by rw[HSM.out];exact HTT.out,HKT.out⟩,by simp[intOf];omega⟩
         ·have hyb:(y !=0)=true:=by simpa using hy0
          have hst:zBX L3 Pp K j (t+1)=(zBX L3 Pp K j t).set t (zGW X Pp j):=by
           rw[<- hset];unfold zFU;rw[if_pos ⟨htK,by rw[HY.out];exact hy0⟩]
          have HST:=hid hst
          have HCL:=hid (fun(Wd:World) (hW:Wd.heap=wr.heap)=>cleared_c Wd gi W ci gk ck X Pp hlW HPPL.out (by unfold maxLen;omega) (hsp.keep (by rw[hW])) (hspk.keep (by rw[hW])) hne hlB HPPB.out j (by omega) HPPJ.out)
          have HPU:=hid hput
          have HGI:=hid (And.intro i1 i2)
          have HLW:=hid hlW
          clear htK hset hself hst hTt hkt hput hsp hMt hX hlW hlB hy hMK hspk hne hputk hy0 htL hMl
          go_wp2
          go_still_tail 6,(by kernel_rfl)
          change wpList _ _ _ _ _ wr.drew
          generalize hwz:wr.drew=wz
          have HWZ:=hid hwz
          have HCZ:=hid (HCL.out wz (by rw[<- hwz];rfl))
          clear hwz
          go_wp2_with fail
          refine(HCZ.out).mono ?_
          rintro e w7 ⟨rfl,hs7,hk7⟩
          go_wp2
          have hk7':Keep (fun k=>k≠gi) wr w7:=(show Keep (fun k=>k≠gi) wr wz by rw[<- HWZ.out];exact(Keep.refl _ _).drewN 1).trans hk7
          refine⟨⟨t+1,by omega,by go_num,?_,HKT.out.trans (hk7'.mono fun k hk=>by have:=HGI.out;rcases hk with h|h<;>omega)⟩,by simp[intOf];omega⟩
          rw[HST.out]
          exact HPU.out _ _ (by rw[zQE (by rw[HLW.out,HPPL.out])]) hs7 (fun k _ _ hk hne=>hk7'.block k hk hne)
       ·obtain rfl:t=N:=by omega
        rw[<- HFIN.out]at hTt
        have HTT:=hid hTt
        have HKT:=hid (HK4.out.trans hkt)
        have hbx6:wr.cell? ⟨wo.heap.size,0,none⟩=some (.int .i64 j):=hkt.cell HBX4.out (.inr (by omega))
        have hsz6:=hkt.size
        have hkeep:Keep (fun k=>w.heap.size<=k) wo wr:=(Keep.of_below hbw').trans (HKT.out.mono fun k hk=>.inr hk)
        have HO6:=hid (own_keep HOW.out hkeep (fun k hk=>hk))
        have M1:=hid (show K+1<=maxLen by unfold maxLen;omega)
        have M2:=hid (show(K+1)*8<=140737488355328 by omega)
        have M3:=hid (yAF (show w.heap.size<=wr.heap.size by have:=hkeep.size;omega) (zCL wr (.cells #[.int .i64 (j:Int)] 3)))
        have HKW:=hid (show Keep (Out base w.heap.size) wo wr from(Keep.of_below hbw').trans HKT.out)
        clear hTt hkt hkeep
        go_wp2_with (at_builtin;refine zAN _ rfl (.tmp 99) (.tmp 101) 24 rfl w.heap.size 3 (.int .i64 0) 1 8 Tryz.underlying24 zDN rfl yBH (.slice vp K vcap) K _ rfl (HO6.out.alloc _) (some ⟨wr.heap.size,0,none⟩) 1 1 [.int .i64 (j:Int)] rfl rfl zBS (zBC wr _ _) (zEL _) M1.out M2.out M3.out ?_;refine Stop.of ?_)
        refine Stop.go ?_
        intro a3 c3 w8 own8 g8
        have hsw0:w.heap.size<=wr.heap.size:=by have:=HKW.out.size;omega
        have hkg:∀k,k<w.heap.size->w8.heap[k]? =wr.heap[k]? :=fun k hk=>by
         have h1:=g8.block k (by simp;omega) (fun e=>by have:=(HO6.out.lt k e.symm).1;omega)
         rw[h1]
         exact(Below.heap_alloc _ _ _ (by omega))
        have hsw:w.heap.size<=wr.heap.size:=by have:=HKW.out.size;omega
        have hb8:Below w.heap.size wr w8:=⟨g8.os,g8.tape,g8.output,by have:=g8.size;simp at this;omega,fun k hk=>hkg k hk⟩
        go_wp2
        refine⟨⟨j+1,by omega,by go_num,?_,?_,?_⟩,by simp[intOf];omega⟩
        ·rw[HE.out]
         simp only[yAN,yDB,yBF,yFS,List.map_nil]
         rw[<- HK.out]
         exact own8
        ·rw[HE.out]
         exact HTT.out.keep fun k _ hk _=>hkg k hk
        ·exact HBK.out.trans ⟨hb8.os.trans HKW.out.os,hb8.tape.trans HKW.out.tape,hb8.output.trans HKW.out.output,yAF HKW.out.size hb8.size,fun k hk=>(hkg k (by have:=HBA.out;omega)).trans (HKW.out.block k (by have:=HBA.out;omega) (.inl hk))⟩
   ·have hKe:K=N:=by omega
    have hd:R.drop K=[]:=yEC (by rw[HRL.out];omega)
    have HE:=hid (show pRed L (j+1)=(R,J)by rw[HSJ.out];exact zPQ (by rw[<- HK.out,hd];rfl))
    have HI:=hid (fun(a:Option Addr) (c:Nat)=>indexRok (wo.alloc (.cells #[.int .i64 j] 3)) a 0 c [] rfl (by decide) (fun i hi=>by simp at hi) 229 #[.pointer (some ⟨wo.heap.size,0,none⟩)] _ _ (enters_of Tryz.func229 (by kernel_rfl) rfl) HPR.out (fun x hx=>by simp at hx))
    simp only[idxP]at HI
    subst hKe
    have hk1:(0:Int)<=(K:Int):=by omega
    clear hd HPR HRW hfz0
    rcases Decidable.em (cap=K)with rfl|hcK
    all_goals
     go_wp2_with (go_at_call 228;refine(HI.out _ _).mono ?_;rintro e w1 ⟨rfl,hb1⟩)
     have hbw:=zAA HBX.out hb1
     refine⟨⟨j+1,by omega,by go_num,?_,?_,?_⟩,by simp[intOf];omega⟩
     ·rw[HE.out]
      simp only[]
      rw[<- HK.out]
      exact zBJ HOW.out hbw
     ·rw[HE.out]
      exact HT.out.keep fun k _ _ hk=>hbw.block k hk
     ·exact HBK.out.trans (hbw.mono HBK.out.size |>.mono (by have:=HBA.out;omega))
  ·obtain rfl:j=n:=by omega
   go_wp2
   go_ret
   exact⟨_,rfl,hown,hT,hbk⟩
end
section
open Go.RowKit
theorem gcd_tmod(p q:Int):Int.gcd q (p.tmod q)=Int.gcd p q:=by
 unfold Int.gcd
 rw[Int.natAbs_tmod]
 rcases yBR q.natAbs with h|h
 ·rw[h];simp
 ·exact gcd_mod _ _ h
theorem zGN(w:World)(a b:Int)(ha: -4611686018427387904<=a∧a<=4611686018427387904)(hb: -4611686018427387904<=b∧b<=4611686018427387904):
 Calls Tryz.prog 211 #[.int .i64 a,.int .i64 b] w fun e w'=>e=.returned (.int .i64 (Int.gcd a b:Nat))∧∃k,w'=w.drewN k:=by
 obtain⟨G,hG⟩:∃G:Nat,G=Int.gcd a b:=⟨_,rfl⟩
 rw[<- hG]
 have HG:=hid hG
 clear hG
 obtain⟨ha1,ha2⟩:=ha
 obtain⟨hb1,hb2⟩:=hb
 go_enter Tryz.func211,Tryz.ntmps211
 go_wp2
 go_loopw [0,1] (fun u v wr=>∃p q:Int,u=.int .i64 p∧v=.int .i64 q∧ -4611686018427387904<=p∧p<=4611686018427387904∧ -4611686018427387904<=q∧q<=4611686018427387904∧Int.gcd p q=G∧∃k,wr=w.drewN k) (fun _ v _=>(intOf v).natAbs)
 case atStart=>exact⟨a,b,rfl,rfl,ha1,ha2,hb1,hb2,HG.out.symm,0,rfl⟩
 case round=>
  obtain⟨p,q,rfl,rfl,hp1,hp2,hq1,hq2,hg,k,rfl⟩:=hrel
  have HGG:=hid hg
  clear hg
  by_cases h0:q=0
  ·subst h0
   have hn:IntKind.i64.wrap (-p)= -p:=IntWalk.i64_in _ (by omega)
   have HGP:=hid (show max p (-p)=((G:Nat):Int)by
    have:=HGG.out
    rw[Int.gcd_zero_right]at this
    omega)
   go_wp2
   all_goals
    go_ret
    exact⟨zDC (by have:=HGP.out;omega),_,rfl⟩
  ·have hne:(q !=0)=true:=by simpa using h0
   have hlt:(p.tmod q).natAbs<q.natAbs:=by rw[Int.natAbs_tmod];exact Nat.mod_lt _ (by omega)
   have hw:IntKind.i64.wrap (p.tmod q)=p.tmod q:=IntWalk.i64_in _ (by omega)
   have HGM:=hid ((gcd_tmod p q).trans HGG.out)
   have HLT:=hid hlt
   clear hlt
   go_wp2
   go_quiet (fail)
   go_wp2
   have h1:=HLT.out
   exact⟨⟨q,p.tmod q,rfl,rfl,hq1,hq2,by omega,by omega,HGM.out,_,zOF _ _ _⟩,by show(p.tmod q).natAbs<q.natAbs;exact h1⟩
theorem zGM(w:World)(a:Option Addr)(n cap:Nat)(l:List Int)(hn:l.length=n)(hm:n<=1000)(H:zAH w a l)(hB:BndL 4611686018427387904 l):
 Calls Tryz.prog 226 #[.slice a n cap] w fun e w'=>∃v,e=.returned v∧w'.ownsRow w.heap.size 3 1 v n ((zDV l).map (Value.int .i64))∧Below w.heap.size w w':=by
 have HN:=hid hn
 have HH:=hid H
 have HBL:=hid hB
 have HGT:=hid (fun(k:Nat) (hk:k<l.length)=>gcdL_take hk)
 have HG0:=hid (fun k=>zGS (l.take k))
 have HGL:=hid (fun(k:Nat)=>gcdL_le (hB.take k))
 clear hn H hB
 go_enter Tryz.func226,Tryz.ntmps226
 go_wp2
 go_loopw [3,11] (fun g i wr=>∃k:Nat,k<=n∧i=.int .i64 k∧g=.int .i64 (gcdL (l.take k))∧Below w.heap.size w wr) (fun _ i _=>n-(intOf i).toNat)
 case atStart=>exact⟨0,yAK _,rfl,rfl,Below.refl _ _⟩
 case round=>
  obtain⟨k,hk,rfl,rfl,hbk⟩:=hrel
  by_cases hlt:k<n
  ·have hkl:k<l.length:=by rw[HN.out];exact hlt
   obtain⟨b,off,rfl,hbs,hc⟩:=(HH.out.below hbk) k hkl
   have hbd:=HBL.out.get hkl
   have hg:=HGT.out k hkl
   have hg0:=HG0.out k
   have hgl:=HGL.out k
   obtain⟨x,hx⟩:=exq (l[k]?.getD 0)
   rw[<- hx]at hc hbd hg
   obtain⟨G,hG⟩:=exq (gcdL (l.take k))
   rw[<- hG]at hg hg0 hgl⊢
   have HD:=hid (zGN wr G x (by omega) (by omega))
   rw[<- hg]at HD
   have HB:=hid hbk
   clear hg hG hx hkl hbk
   go_wp2_with (go_at_call 211;refine HD.out.mono ?_;rintro e w1 ⟨rfl,q,rfl⟩)
   exact⟨⟨k+1,by omega,by go_num,rfl,zAI HB.out _⟩,by simp[intOf];omega⟩
  ·obtain rfl:k=n:=by omega
   have e:l.take k=l:=yAL (by rw[HN.out];exact yAC _)
   have hg0:=HG0.out k
   have hgl:=HGL.out k
   rw[e]at hg0 hgl⊢
   obtain⟨G,hG⟩:=exq (gcdL l)
   rw[<- hG]at hg0 hgl⊢
   have HG:=hid hG
   have HB:=hid hbk
   have hpf:zDV l=l.map (fun x=>x.tdiv (max G 1)):=by unfold zDV;rw[<- HG.out]
   have HPF:=hid hpf
   obtain⟨d,hd⟩:=exq (max G 1)
   have HD:=hid hd
   have hd1:1<=d:=by omega
   clear e hG hbk hpf hd
   obtain⟨w1,hw1⟩:=exq (wr)
   subst hw1
   go_wp2
   go_loopw [6,21] (fun v i wr=>∃t:Nat,t<=k∧i=.int .i64 t∧wr.ownsRow w.heap.size 3 1 v t ((l.take t).map (fun x=>Value.int .i64 (x.tdiv d)))∧Below w.heap.size w wr) (fun _ i _=>k-(intOf i).toNat)
   case atStart=>exact⟨0,yAK _,rfl,World.ownsRow_nil _ _ _ _,HB.out⟩
   case round=>
    obtain⟨t,ht,rfl,hown,hbt⟩:=hrel
    by_cases hlt:t<k
    ·have htl:t<l.length:=by rw[HN.out];exact hlt
     obtain⟨b,off,rfl,hbs,hc⟩:=(HH.out.below hbt) t htl
     have hbd:=HBL.out.get htl
     have hsn:(l.take (t+1)).map (fun x=>Value.int .i64 (x.tdiv d))=(l.take t).map (fun x=>Value.int .i64 (x.tdiv d))++[.int .i64 ((l[t]?.getD 0).tdiv d)]:=by
      rw[yAI htl,yBF,yAA htl];rfl
     obtain⟨x,hx⟩:=exq (l[t]?.getD 0)
     rw[<- hx]at hc hbd hsn
     obtain⟨va,vc,rfl⟩:=zAC hown
     have htd:=zFQ hd1 (show-(4611686018427387904:Int)<=x∧x<=4611686018427387904 by omega)
     have hwq:IntKind.i64.wrap (x.tdiv d)=x.tdiv d:=IntWalk.i64_in _ (by omega)
     have HSN:=hid hsn
     have HO:=hid hown
     have HBT:=hid hbt
     have M1:=hid (show t+1<=maxLen by unfold maxLen;omega)
     have M2:=hid (show(t+1)*8<=140737488355328 by omega)
     have M3:=hid (yAF hbt.size (zCL wr (.cells #[.int .i64 (x.tdiv d)] 3)))
     clear hown hbt hsn hx htl htd
     rcases yBK G 1 with hG1|hG1
     ·obtain rfl:d=1:=by have:=HD.out;omega
      have hGG:¬(1<=G):=by omega
      rw[Int.tdiv_one]at HSN M3 hwq
      go_wp2_with (at_builtin;refine zAN _ rfl (.tmp 25) (.tmp 30) 24 rfl w.heap.size 3 (.int .i64 0) 1 8 Tryz.underlying24 zDN rfl yBH (.slice va t vc) t _ rfl (HO.out.alloc _) (some ⟨wr.heap.size,0,none⟩) 1 1 [.int .i64 x] rfl rfl zBS (zBC wr _ _) (zEL _) M1.out M2.out M3.out ?_;refine Stop.of ?_)
      refine Stop.go ?_
      intro a3 c3 w3 own3 g3
      have hB3:Below w.heap.size w w3:=(HBT.out.alloc HBT.out.size _).grown g3 M3.out (fun k hk=>(HO.out.lt k hk).1)
      go_wp2
      refine⟨⟨t+1,by omega,by go_num,?_,hB3⟩,by simp[intOf];omega⟩
      rw[HSN.out]
      simpa using own3
     ·obtain rfl:d=G:=by have:=HD.out;omega
      have hgz:¬(d=0):=by omega
      go_wp2_with (at_builtin;refine zAN _ rfl (.tmp 25) (.tmp 30) 24 rfl w.heap.size 3 (.int .i64 0) 1 8 Tryz.underlying24 zDN rfl yBH (.slice va t vc) t _ rfl (HO.out.alloc _) (some ⟨wr.heap.size,0,none⟩) 1 1 [.int .i64 (x.tdiv d)] rfl rfl zBS (zBC wr _ _) (zEL _) M1.out M2.out M3.out ?_;refine Stop.of ?_)
      refine Stop.go ?_
      intro a3 c3 w3 own3 g3
      have hB3:Below w.heap.size w w3:=(HBT.out.alloc HBT.out.size _).grown g3 M3.out (fun k hk=>(HO.out.lt k hk).1)
      go_wp2
      refine⟨⟨t+1,by omega,by go_num,?_,hB3⟩,by simp[intOf];omega⟩
      rw[HSN.out]
      simpa using own3
    ·obtain rfl:t=k:=by omega
     rw[yAL (by rw[HN.out];exact yAC _)]at hown
     go_wp2
     go_ret
     refine⟨_,rfl,?_,hbt⟩
     rw[HPF.out,<- HD.out,List.map_map]
     exact hown
theorem zPO(w:World)(a:Option Addr)(n cap:Nat)(l:List Int)(hn:l.length=n)(hm:n<=1000)(H:zAH w a l)(hB:BndL 4611686018427387904 l):
 Calls Tryz.prog 185 #[.slice a n cap,.int .i64 (-1)] w fun e w'=>∃v,e=.returned v∧w'.ownsRow w.heap.size 3 1 v n ((negF l).map (Value.int .i64))∧Below w.heap.size w w':=by
 have HN:=hid hn
 have HH:=hid H
 have HBL:=hid hB
 have HPF:=hid (show negF l=l.map (fun x=> -x)from rfl)
 clear hn H hB
 go_enter Tryz.func185,Tryz.ntmps185
 go_wp2
 go_loopw [5,10] (fun v i wr=>∃t:Nat,t<=n∧i=.int .i64 t∧wr.ownsRow w.heap.size 3 1 v t ((l.take t).map (fun x=>Value.int .i64 (-x)))∧Below w.heap.size w wr) (fun _ i _=>n-(intOf i).toNat)
 case atStart=>exact⟨0,yAK _,rfl,World.ownsRow_nil _ _ _ _,Below.refl _ _⟩
 case round=>
  obtain⟨t,ht,rfl,hown,hbt⟩:=hrel
  by_cases hlt:t<n
  ·have htl:t<l.length:=by rw[HN.out];exact hlt
   obtain⟨b,off,rfl,hbs,hc⟩:=(HH.out.below hbt) t htl
   have hbd:=HBL.out.get htl
   have hsn:(l.take (t+1)).map (fun x=>Value.int .i64 (-x))=(l.take t).map (fun x=>Value.int .i64 (-x))++[.int .i64 (-(l[t]?.getD 0))]:=by
    rw[yAI htl,yBF,yAA htl];rfl
   obtain⟨x,hx⟩:=exq (l[t]?.getD 0)
   rw[<- hx]at hc hbd hsn
   obtain⟨y,hy⟩:=exq (-x)
   obtain⟨va,vc,rfl⟩:=zAC hown
   have hwq:wrap64 (-x)=y:=by unfold wrap64;omega
   rw[<- hy]at hsn
   have HSN:=hid hsn
   have HO:=hid hown
   have HBT:=hid hbt
   have M1:=hid (show t+1<=maxLen by unfold maxLen;omega)
   have M2:=hid (show(t+1)*8<=140737488355328 by omega)
   have M3:=hid (yAF hbt.size (zCL wr (.cells #[.int .i64 y] 3)))
   clear hown hbt hsn hx htl hbd hy
   go_wp2_with (at_builtin;refine zAN _ rfl (.tmp 14) (.tmp 18) 24 rfl w.heap.size 3 (.int .i64 0) 1 8 Tryz.underlying24 zDN rfl yBH (.slice va t vc) t _ rfl (HO.out.alloc _) (some ⟨wr.heap.size,0,none⟩) 1 1 [.int .i64 y] rfl rfl zBS (zBC wr _ _) (zEL _) M1.out M2.out M3.out ?_;refine Stop.of ?_)
   refine Stop.go ?_
   intro a3 c3 w3 own3 g3
   have hB3:Below w.heap.size w w3:=(HBT.out.alloc HBT.out.size _).grown g3 M3.out (fun k hk=>(HO.out.lt k hk).1)
   go_wp2
   refine⟨⟨t+1,by omega,by go_num,?_,hB3⟩,by simp[intOf];omega⟩
   rw[HSN.out]
   simpa using own3
  ·obtain rfl:t=n:=by omega
   rw[yAL (by rw[HN.out];exact yAC _)]at hown
   go_wp2
   go_ret
   refine⟨_,rfl,?_,hbt⟩
   rw[HPF.out,List.map_map]
   exact hown
end
section
open Go.RowKit
def allI(n:Nat):List Int:=(List.range n).map (fun j:Nat=>(j:Int))
theorem zRW(n:Nat):(allI n).length=n:=by simp[allI]
theorem allI_succ(n:Nat):allI (n+1)=allI n++[(n:Int)]:=by unfold allI;rw[yBQ,yBF];rfl
theorem all_c(w:World)(n:Nat)(hn:n<=1000):
 Calls Tryz.prog 194 #[.int .i64 n] w fun e w'=>∃v,e=.returned v∧w'.ownsRow w.heap.size 3 1 v n ((allI n).map (Value.int .i64))∧Below w.heap.size w w':=by
 go_enter Tryz.func194,Tryz.ntmps194
 go_wp2
 go_loopw [3,6] (fun v i wr=>∃k:Nat,k<=n∧i=.int .i64 k∧wr.ownsRow w.heap.size 3 1 v k ((allI k).map (Value.int .i64))∧Below w.heap.size w wr) (fun _ i _=>n-(intOf i).toNat)
 case atStart=>exact⟨0,yAK _,rfl,World.ownsRow_nil _ _ _ _,Below.refl _ _⟩
 case round=>
  obtain⟨k,hk,rfl,hown,hbk⟩:=hrel
  by_cases hlt:k<n
  ·obtain⟨va,vc,rfl⟩:=zAC hown
   have HO:=hid hown
   have M1:=hid (show k+1<=maxLen by unfold maxLen;omega)
   have M2:=hid (show(k+1)*8<=140737488355328 by omega)
   have M3:=hid (yAF hbk.size (zCL wr (.cells #[.int .i64 (k:Int)] 3)))
   clear hown
   go_wp2_with (at_builtin;refine zAN _ rfl (.tmp 9) (.tmp 11) 24 rfl w.heap.size 3 (.int .i64 0) 1 8 Tryz.underlying24 zDN rfl yBH (.slice va k vc) k _ rfl (HO.out.alloc _) (some ⟨wr.heap.size,0,none⟩) 1 1 [.int .i64 (k:Int)] rfl rfl zBS (zBC wr _ _) (zEL _) M1.out M2.out M3.out ?_;refine Stop.of ?_)
   refine Stop.go ?_
   intro a3 c3 w3 own3 g3
   have hB3:Below w.heap.size w w3:=(hbk.alloc hbk.size _).grown g3 M3.out (fun k hk=>(HO.out.lt k hk).1)
   go_wp2
   refine⟨⟨k+1,by omega,by go_num,?_,hB3⟩,by simp[intOf];omega⟩
   rw[allI_succ]
   simpa using own3
  ·obtain rfl:k=n:=by omega
   go_wp2
   go_ret
   exact⟨_,rfl,hown,hbk⟩
theorem none_c(w:World)(i:Int):Calls Tryz.prog 221 #[.int .i64 i] w fun e w'=>e=.returned (.slice none 0 0)∧w=w':=by
 go_enter Tryz.func221,Tryz.ntmps221
 go_wp2
 go_ret
 exact⟨rfl,rfl⟩
def MoreP(P:Program)(g:Nat)(lb:Array Value)(w:World)(N:Nat)(mo:Nat->List Int):Prop:=
 ∀(i:Nat) (W:World),i<N->Below w.heap.size w W->Calls P g (#[.int .i64 i]++lb) W fun e W'=>∃a c,e=.returned (.slice a (mo i).length c)∧zAH W' a (mo i)∧Below W.heap.size W W'
theorem none_more(w:World)(N:Nat):MoreP Tryz.prog 221 #[] w N (fun _=>[]):=fun i W _ _=>(none_c W i).mono fun e W' ⟨he,hw⟩=>⟨none,0,he,fun j hj=>by simp at hj,by rw[hw];exact Below.refl _ _⟩
def zEI(M:List (List Int))(S:List Int)(mo:Nat->List Int):List (List Int):=M.mapIdx (fun i r=>S.map (fun j=>vec r j.toNat)++mo i)
theorem zIX(M:List (List Int))(S:List Int)(mo:Nat->List Int):(zEI M S mo).length=M.length:=by simp[zEI]
theorem zLS(M:List (List Int))(S:List Int):zEI M S (fun _=>[])=zAO M S:=by
 unfold zEI zAO
 refine yCC (by simp) fun i h1 h2=>?_
 simp
theorem zLR{M:List (List Int)}{S:List Int}{mo:Nat->List Int}{k:Nat}(hk:k<M.length):(zEI M S mo).take (k+1)=(zEI M S mo).take k++[S.map (fun j=>vec M[k] j.toNat)++mo k]:=by
 rw[yAI (by rw[zIX];exact hk)]
 simp[zEI]
theorem zMG(l:List Int):∀u∈l.map (Value.int .i64),u.oneCell'=true:=by intro u hu;obtain⟨x,_,rfl⟩:=yBJ.1 hu;rfl
theorem zRU(w:World)(a:Option Addr)(n cap:Nat)(M:List (List Int))(hn:M.length=n)(hn6:n<=1000)(H:zAM w a M)(a2:Option Addr)(k2 cap2:Nat)(S:List Int)(hk2:S.length=k2)(hk21:k2<=1000)(H2:zAH w a2 S)
 (hS:∀r∈M,∀j∈S,0<=j∧j<r.length)(g:Nat)(lb:Array Value)(eg:∀args w,(callFunc g args).run Tryz.prog w=.ok (.enter g args) w)(mo:Nat->List Int)(hmo:MoreP Tryz.prog g lb w n mo)(hml:∀i,i<n->(mo i).length<=1000∧1<=k2+(mo i).length):
 Calls Tryz.prog 220 #[.slice a n cap,.slice a2 k2 cap2,.func (.func g) #[] lb] w fun e w'=>∃v,e=.returned v∧OwnM w' w.heap.size v (zEI M S mo)∧Below w.heap.size w w':=by
 have HN:=hid hn
 have HH:=hid H
 have HK2:=hid hk2
 have HH2:=hid H2
 have HS:=hid hS
 have HMO:=hid hmo
 have HML:=hid hml
 have HCT:=hid (fun(k:Nat) (hk:k<M.length)=>zLR (M:=M) (S:=S) (mo:=mo) hk)
 have HCL:=hid (zIX M S mo)
 obtain⟨C,hC⟩:=exq (zEI M S mo)
 rw[<- hC]at HCT HCL⊢
 clear hn H hk2 H2 hS hmo hml hC
 go_enter Tryz.func220,Tryz.ntmps220
 go_wp2
 go_loopw [7,15] (fun v i wr=>∃k:Nat,k<=n∧i=.int .i64 k∧OwnM wr w.heap.size v (C.take k)∧Below w.heap.size w wr) (fun _ i _=>n-(intOf i).toNat)
 case atStart=>exact⟨0,yAK _,rfl,OwnM.nil _ _,Below.refl _ _⟩
 case round=>
  obtain⟨k,hk,rfl,ho,hbk⟩:=hrel
  obtain⟨wo,hwo⟩:=exq (wr)
  subst hwo
  by_cases hlt:k<n
  ·have hkM:k<M.length:=by rw[HN.out];exact hlt
   obtain⟨b,off,ra,rn,rc,rfl,hbs,hq0,hrn,hrm,hri⟩:=(HH.out.below hbk) k hkM
   have htk:=HCT.out k hkM
   have hsr:=HS.out M[k] (yAH hkM)
   obtain⟨r,hr⟩:=exq (M[k])
   rw[<- hr]at htk hsr hrn hri
   have hlen:(C.take k).length=k:=by rw[yAU,HCL.out];omega
   have HL:=hid hlen
   have HTK:=hid htk
   have HSR:=hid hsr
   have HRN:=hid hrn
   have HRI:=hid hri
   have HO:=hid ho
   have HBK:=hid hbk
   obtain⟨va,vc,hv⟩:∃va vc,u7=.slice va k vc:=by
    obtain⟨_,_,ho1,_⟩:=ho
    obtain⟨a',c',e⟩:=zAC ho1
    exact⟨a',c',by rw[e,hlen]⟩
   subst hv
   clear hr htk hsr hrn hri hkM ho hlen
   go_wp2
   go_loopw [10,22] (fun v i wr=>∃t:Nat,t<=k2∧i=.int .i64 t∧wr.ownsRow wo.heap.size 3 1 v t (((S.take t).map (fun j=>vec r j.toNat)).map (Value.int .i64))∧Below wo.heap.size wo wr) (fun _ i _=>k2-(intOf i).toNat)
   case atStart=>exact⟨0,yAK _,rfl,World.ownsRow_nil _ _ _ _,Below.refl _ _⟩
   case round=>
    obtain⟨t,ht,rfl,hown,hbt⟩:=hrel
    by_cases hlt2:t<k2
    ·have htS:t<S.length:=by rw[HK2.out];exact hlt2
     obtain⟨b2,off2,rfl,hbs2,hc2⟩:=(HH2.out.below (zAA HBK.out hbt)) t htS
     have hpp:=HSR.out S[t] (yAH htS)
     have hg2:S[t]?.getD 0=S[t]:=by rw[yAA htS];rfl
     rw[hg2]at hc2
     have htk2:(S.take (t+1)).map (fun j=>vec r j.toNat)=(S.take t).map (fun j=>vec r j.toNat)++[vec r (S[t]).toNat]:=by
      rw[yAI htS,yBF];rfl
     obtain⟨q,hq⟩:∃q:Nat,S[t]=q:=⟨(S[t]).toNat,by omega⟩
     rw[hq]at hc2 hpp htk2
     rw[show((q:Int)).toNat=q by omega]at htk2
     have hqr:q<r.length:=by omega
     obtain⟨b3,off3,rfl,hbs3,hc3⟩:=(HRI.out.below hbt) q hqr
     have hqn:(q:Int)<(rn:Int):=by have:=HRN.out;omega
     have hq0':(0:Int)<=(q:Int):=by omega
     obtain⟨x,hx⟩:=exq (r[q]?.getD 0)
     have hxv:vec r q=x:=hx.symm
     rw[<- hx]at hc3
     rw[hxv]at htk2
     obtain⟨la,lc,rfl⟩:=zAC hown
     have HTK2:=hid htk2
     have HOW:=hid hown
     have M1:=hid (show t+1<=maxLen by unfold maxLen;omega)
     have M2:=hid (show(t+1)*8<=140737488355328 by omega)
     have M3:=hid (yAF hbt.size (zCL wr (.cells #[.int .i64 x] 3)))
     clear hpp hg2 htk2 hq hx hxv hown htS hqr
     go_wp2_with (at_builtin;refine zAN _ rfl (.tmp 26) (.tmp 31) 24 rfl wo.heap.size 3 (.int .i64 0) 1 8 Tryz.underlying24 zDN rfl yBH (.slice la t lc) t _ rfl (HOW.out.alloc _) (some ⟨wr.heap.size,0,none⟩) 1 1 [.int .i64 x] rfl rfl zBS (zBC wr _ _) (zEL _) M1.out M2.out M3.out ?_;refine Stop.of ?_)
     refine Stop.go ?_
     intro a3 c3 w3 own3 g3
     have hB3:Below wo.heap.size wo w3:=(hbt.alloc hbt.size _).grown g3 M3.out (fun k hk=>(HOW.out.lt k hk).1)
     go_wp2
     refine⟨⟨t+1,by omega,by go_num,?_,hB3⟩,by simp[intOf];omega⟩
     rw[HTK2.out]
     simpa using own3
    ·obtain rfl:t=k2:=by omega
     rw[yAL (by rw[HK2.out];exact yAC _)]at hown
     obtain⟨la,lc,rfl⟩:=zAC hown
     have HMK:=hid (HMO.out k wr hlt (zAA HBK.out hbt))
     have HOW:=hid hown
     have hml:=HML.out k hlt
     obtain⟨m,hm⟩:=exq (mo k)
     rw[<- hm]at hml HMK HTK
     obtain⟨ml,hmle⟩:=exq (m.length)
     rw[<- hmle]at hml HMK
     have HME:=hid hmle
     obtain⟨hml1,hml2⟩:=hml
     clear hown hm hmle
     go_wp2_with (refine HMK.out.mono ?_;rintro e w2 ⟨ma,mc,rfl,hmi,hb2⟩;refine Stop.of ?_)
     refine Stop.go ?_
     have HO2:=hid (zBJ HOW.out hb2)
     have HMI:=hid hmi
     have HB2:=hid (zAA hbt hb2)
     have N1:=hid (show t+ml<=maxLen by unfold maxLen;omega)
     have N2:=hid (show(t+ml)*8<=140737488355328 by omega)
     have N3:=hid (show wo.heap.size<=w2.heap.size from HB2.out.size)
     have N4:=hid (show(m.map (Value.int .i64)).length=ml*1 by rw[yAS,HME.out];omega)
     have N5:=hid (show ma=none->ml=0 from fun h=>by rw[HME.out];exact zNU hmi h)
     have N6:=hid (zNV hmi)
     clear hmi hb2 hbt
     go_wp2_with (at_builtin;refine zAN _ rfl (.tmp 35) (.tmp 38) 24 rfl wo.heap.size 3 (.int .i64 0) 1 8 Tryz.underlying24 zDN rfl yBH (.slice la t lc) t _ rfl HO2.out ma ml mc (m.map (Value.int .i64)) rfl N4.out N5.out N6.out (zMG _) N1.out N2.out N3.out ?_;refine Stop.of ?_)
     refine Stop.go ?_
     intro a3 c3 w3 own3 g3
     have hB3:Below wo.heap.size wo w3:=HB2.out.grown g3 N3.out (fun k hk=>(HO2.out.lt k hk).1)
     rw[<- List.map_map,<- yBF]at own3
     obtain⟨X,hX⟩:=exq (S.map (fun j=>vec r j.toNat)++m)
     rw[<- hX]at own3 HTK
     have hXl:X.length=t+ml:=by rw[hX,yAN,yAS,HK2.out,HME.out]
     obtain⟨gn,cc,e3,hgn,hsr⟩:=zJC own3 hXl (by omega)
     cases e3
     have HXL:=hid hXl
     obtain⟨g',vs,ho,hin,he⟩:=HO.out
     rw[HL.out]at ho
     have hb2a:Below wo.heap.size wo (w3.alloc (.cells #[.slice (some ⟨gn,0,none⟩) (t+ml) c3] 24)):=hB3.alloc hB3.size _
     have M1:=hid (show k+1<=maxLen by unfold maxLen;omega)
     have M2:=hid (show(k+1)*24<=140737488355328 by omega)
     have M3:=hid (yAF HBK.out.size hb2a.size)
     have HO2':=hid (zBJ ho hb2a)
     have HE:=hid he
     have HIN:=hid hin
     have HSR2:=hid hsr
     have HB2':=hid hb2a
     have HOO:=hid ho
     have HC3:=hid (own_cap own3)
     clear he hin hsr hb2a ho own3 hX hXl hml1 hml2 hB3 g3
     go_wp2_with (at_builtin;refine zAN _ rfl (.tmp 34) (.tmp 40) 22 rfl w.heap.size 24 (.slice none 0 0) 1 24 Tryz.underlying22 zEP rfl yBH (.slice va k vc) k vs rfl HO2'.out (some ⟨w3.heap.size,0,none⟩) 1 1 [.slice (some ⟨gn,0,none⟩) (t+ml) c3] rfl rfl zBS (zBC w3 _ _) (zBL _ _ _) M1.out M2.out M3.out ?_;refine Stop.of ?_)
     refine Stop.go ?_
     intro a5 c5 w5 own5 g5
     have hsn:OwnM w5 w.heap.size (.slice a5 (k+1) c5) (C.take k++[X]):=by
      have own5':w5.ownsRow w.heap.size 24 1 (.slice a5 (k+1) c5) ((C.take k).length+1) (vs++[.slice (some ⟨gn,0,none⟩) X.length c3]):=by rw[HL.out,HXL.out];exact own5
      exact OwnM.snoc (by rw[HL.out];exact HOO.out) HIN.out HE.out HB2'.out (HSR2.out.keep (Below.heap_alloc _ _ _ HSR2.out.lt)) hgn (by rw[HXL.out];exact HC3.out) HBK.out.size g5 own5'
     have hB5:Below w.heap.size w w5:=(HBK.out.trans (HB2'.out.mono HBK.out.size)).grown g5 M3.out (fun q hq=>(HO2'.out.lt q hq).1)
     rw[<- HTK.out]at hsn
     go_wp2
     exact⟨⟨k+1,by omega,by go_num,hsn,hB5⟩,by simp[intOf];omega⟩
  ·obtain rfl:k=n:=by omega
   rw[yAL (by rw[HCL.out,HN.out];exact yAC _)]at ho
   go_wp2
   go_ret
   exact⟨_,rfl,ho,hbk⟩
end
section
theorem zMR(R:List (List Int))(f p:Nat):∀(J:List Nat) (k:Nat) (t:Int),zDL R f (J++[p]) k t=
 zDL R f J k t*(nP (vec (R[k+J.length]?.getD []) p) (vec (R[k+J.length]?.getD []) f)).tdiv (Int.gcd (zDL R f J k t) (nP (vec (R[k+J.length]?.getD []) p) (vec (R[k+J.length]?.getD []) f)):Nat)
 | [],k,t=>rfl
 |q::J,k,t=>by
  show zDL R f (J++[p]) (k+1) _=_
  rw[zMR R f p J (k+1),show k+1+J.length=k+(q::J).length by simp;omega]
  rfl
theorem zKY(v:Nat->Nat->Int)(p:Nat):∀(J:List Nat) (k:Nat) (h:List Int),zEM v (J++[p]) k h=(zEM v J k h).set p (v (k+J.length) p)
 | [],k,h=>rfl
 |q::J,k,h=>by
  show zEM v (J++[p]) (k+1) _=_
  rw[zKY v p J (k+1),show k+1+J.length=k+(q::J).length by simp;omega]
  rfl
def zHM(R:List (List Int))(J:List Nat)(n t:Nat):List (List Int):=((List.range t).filter (fun f=>!J.contains f)).map (kerP R J n)
theorem zOW{R:List (List Int)}{J:List Nat}{n t:Nat}(h:t∈J):zHM R J n (t+1)=zHM R J n t:=by
 unfold zHM;rw[yBQ,yCK];simp[h]
theorem zNQ{R:List (List Int)}{J:List Nat}{n t:Nat}(h:t∉J):zHM R J n (t+1)=zHM R J n t++[kerP R J n t]:=by
 unfold zHM;rw[yBQ,yCK];simp[h]
theorem kernTo_all(R:List (List Int))(J:List Nat)(n:Nat):zHM R J n n=zII R J n:=rfl
theorem kernTo_le(R:List (List Int))(J:List Nat)(n t:Nat):(zHM R J n t).length<=t:=by
 unfold zHM;rw[yAS]
 have:=yEK (fun f=>!J.contains f) (List.range t)
 rwa [List.length_range]at this
theorem MaskOk.times{M:List (List Int)}{n:Nat}(h:MaskOk M n)(f:Nat){t:Nat}(ht:t<=(JP M n).length):
 0<zDL (RP M n) f ((JP M n).take t) 0 1∧zDL (RP M n) f ((JP M n).take t) 0 1<=720:=by
 obtain⟨d,d1,d2,hk⟩:=zNH (n:=n) h.wid h.le6 (fun r hr c _=>h.one r hr c)
 obtain⟨a,b,_,_⟩:=zHC (R:=RP M n) (f:=f) (d:=d) ((JP M n).take t) 0 1 (by decide) (Int.one_dvd _) (fun i hi=>by
  rw[yAU]at hi
  have h1:i<(JP M n).length:=by omega
  have:=hk.piv i h1
  rw[yAW]
  have e:jf ((JP M n).take t) i=jf (JP M n) i:=by unfold jf;rw[yCN (by omega)]
  rw[e];exact this)
 have h9:=yFV (by omega) b
 exact⟨a,by omega⟩
theorem MaskOk.pivx{M:List (List Int)}{n:Nat}(h:MaskOk M n){i:Nat}(hi:i<(JP M n).length):0<vec ((RP M n)[i]?.getD []) ((JP M n)[i])∧vec ((RP M n)[i]?.getD []) ((JP M n)[i])<=720∧(JP M n)[i]<n:=by
 have h1:0<rowv (RP M n) i (jf (JP M n) i):=((h.inv n).pp i hi).2
 have e:jf (JP M n) i=(JP M n)[i]:=by unfold jf;rw[yAA hi];rfl
 rw[e]at h1
 exact⟨h1,(h.rp_le i _).2,(h.inv n).lt _ (yAH hi)⟩
theorem nP_le{x e:Int}(h0:0<x)(h:x<=720):0<nP x e∧nP x e<=720:=by
 obtain⟨a,b,_⟩:=zRE (e:=e) h0 (yFI x)
 have:=yFV h0 b
 exact⟨a,by omega⟩
theorem MaskOk.raw_le{M:List (List Int)}{n:Nat}(h:MaskOk M n){f:Nat}(hf:f<n)(hfJ:f∉JP M n)(c:Nat):(vec (rawP (RP M n) (JP M n) n f) c).natAbs<=518400:=by
 obtain⟨t,ht,ht2,h1,h2,h3⟩:=h.raw hf hfJ
 by_cases hc:c∈JP M n
 ·obtain⟨i,hi,rfl⟩:=zPR hc
  have e:=h3 i hi
  have hp:0<rowv (RP M n) i (jf (JP M n) i):=((h.inv n).pp i hi).2
  have hb:=h.rp_le i f
  have e2:=congrArg Int.natAbs e
  rw[yAR,yAR,Int.natAbs_neg]at e2
  have h5:(vec (rawP (RP M n) (JP M n) n f) (jf (JP M n) i)).natAbs<=(rowv (RP M n) i f).natAbs*t.natAbs:=by
   rw[<- e2];exact Nat.le_mul_of_pos_right _ (by omega)
  refine yAF h5 ?_
  show _<=720*720
  exact yAV (by unfold rowv;omega) (by omega)
 ·by_cases e:c=f
  ·subst e;rw[h1];omega
  ·rw[h2 c hc e];simp
theorem rawP_len(R:List (List Int))(J:List Nat)(n f:Nat):(rawP R J n f).length=n:=by unfold rawP;rw[zDG];simp
theorem kerP_len(R:List (List Int))(J:List Nat)(n f:Nat):(kerP R J n f).length=n:=by unfold kerP;rw[zCM,rawP_len]
theorem MaskOk.bnd{M:List (List Int)}{n:Nat}(h:MaskOk M n){t:Nat}(ht:t<=n):∀r∈(pRed M t).1,r.length=n∧∀x∈r,-(720:Int)<=x∧x<=720:=by
 have:=zRA (n:=n) (Y:=1) h.wid h.le6 (fun r hr c _=>h.one r hr c) (fun r hr=>zFE (P:=fun x=> -((1:Nat):Int)<=x∧x<=((1:Nat):Int)) fun c=>by have:=h.one r hr c;omega) ht
 intro r hr
 obtain⟨h1,h2⟩:=this r hr
 exact⟨h1,fun x hx=>by have:=h2 x hx;omega⟩
end
section
open Go.RowKit
theorem indexV(w:World)(a:Option Addr)(n cap:Nat)(l:List Int)(hn:l.length=n)(hm:n<=maxLen)(H:zAH w a l)(x:Int):
 Calls Tryz.prog 191 #[.slice a n cap,.int .i64 x] w fun e w'=>e=.returned (.int .i64 (idxP (fun y=>decide (y=x)) l 0))∧w=w':=by
 have HN:=hid hn
 have HH:=hid H
 clear hn H
 unfold maxLen at hm
 go_enter Tryz.func191,Tryz.ntmps191
 go_wp2
 go_loop [8] (fun i=>∃k:Nat,k<=n∧i=.int .i64 k∧Hid (∀i y,i<k->l[i]? =some y->y≠x)) (fun i=>n-(intOf i).toNat)
 case atStart=>exact⟨0,yAK _,rfl,hid (fun i y h=>by omega)⟩
 case round=>
  obtain⟨k,hk,rfl,HNO⟩:=hrel
  by_cases hlt:k<n
  ·have hkl:k<l.length:=by rw[HN.out];exact hlt
   obtain⟨b,off,rfl,hbs,hc⟩:=HH.out k hkl
   have HK:=hid (yAA hkl)
   have hg:l[k]?.getD 0=l[k]:=by rw[yAA hkl];rfl
   rw[hg]at hc
   obtain⟨y,hy⟩:=exq (l[k])
   rw[<- hy]at hc HK
   clear hg hy hkl
   by_cases e:y=x
   ·have hb:(x==y)=true:=by simp[e]
    have HE:=hid e
    clear e
    go_wp2
    go_ret
    refine⟨zDC ?_,rfl⟩
    rw[zIW (fun y=>decide (y=x)) l 0 k y HK.out (by simpa using HE.out) (fun i z hi hz=>by simpa using HNO.out i z hi hz)];simp
   ·have hb:(x==y)=false:=by simp;omega
    have HE:=hid e
    clear e
    go_wp2
    go_round
    case rel=>
     refine⟨k+1,by omega,by go_num,hid fun i z hi hz=>?_⟩
     by_cases e:i=k
     ·subst e;rw[HK.out]at hz;cases hz;exact HE.out
     ·exact HNO.out i z (by omega) hz
    case measure=>simp[intOf];omega
  ·go_wp2
   go_ret
   refine⟨zDC ?_,rfl⟩
   rw[zGR]
   intro z hz
   obtain⟨i,hi,e⟩:=yDQ hz
   simpa using HNO.out i z (by have:=HN.out;omega) (by rw[yAA hi,e])
theorem containsV(w:World)(a:Option Addr)(n cap:Nat)(l:List Int)(hn:l.length=n)(hm:n<=maxLen)(H:zAH w a l)(x:Int):
 Calls Tryz.prog 180 #[.slice a n cap,.int .i64 x] w fun e w'=>e=.returned (.bool (l.contains x))∧w=w':=by
 have HC:=hid (indexV w a n cap l hn hm H x)
 have HG:=hid (zKV (fun y=>decide (y=x)) l 0)
 clear hn H
 go_enter Tryz.func180,Tryz.ntmps180
 go_wp2_with (go_at_call 191;refine HC.out.mono ?_;rintro e w1 ⟨rfl,rfl⟩)
 go_ret
 refine⟨zAP ?_,rfl⟩
 rw[Bool.eq_iff_iff,decide_eq_true_iff,HG.out]
 simp[yDO]
def zKU(J:List Nat):List Int:=J.map (fun j:Nat=>(j:Int))
theorem zFI(J:List Nat):(zKU J).length=J.length:=by simp[zKU]
theorem zOY(J:List Nat)(f:Nat):(zKU J).contains (f:Int)=J.contains f:=by
 rw[Bool.eq_iff_iff]
 unfold zKU
 simp only[yFP,yBJ]
 constructor
 ·rintro⟨x,hx,e⟩
  have:x=f:=by omega
  subst this;exact hx
 ·intro h;exact⟨f,h,rfl⟩
theorem zKT(J:List Nat):J.map (fun j:Nat=>Value.int .i64 j)=(zKU J).map (Value.int .i64):=by unfold zKU;rw[List.map_map];rfl
theorem zCK{W:World}{base:Nat}{v:Value}{n:Nat}{l:List Int}(h:W.ownsRow base 3 1 v n (l.map (Value.int .i64)))(hn:l.length=n):∃a c,v=.slice a n c∧zAH W a l∧n<=maxLen:=by
 subst hn
 rcases h.2 with⟨rfl,h0⟩|⟨g,cap,cur,rfl,hbg,hgg,hnc,hcm,hsz,htk⟩
 ·exact⟨none,0,by rw[h0],fun j hj=>by omega,by rw[h0];decide⟩
 ·refine⟨_,cap,rfl,?_,by omega⟩
  have:=(zDX.own (S:=fun _=>True) (base:=base) ⟨h.1,.inr ⟨g,cap,cur,rfl,hbg,hgg,hnc,hcm,hsz,htk⟩⟩ (show l.length<=maxLen by omega) (fun _ _=>trivial)).ints
  exact this.2.2
theorem zMT(w:World)(k f:Nat)(T:Int):zBD (w.alloc (.cells ((madeCells #[.int .i64 0] k).setIfInBounds f (.int .i64 T)) 3)) w.heap.size ((List.replicate k 0).set f T):=by
 have e:madeCells #[Value.int .i64 0] k=((List.replicate k (0:Int)).map (Value.int .i64)).toArray:=by
  apply yEO.1
  rw[toList_madeCells_one];simp
 refine⟨[],?_⟩
 rw[World.alloc_heap_new,e,yBC]
 congr 2
 apply yEO.1
 simp[List.map_set]
theorem row_cells{W:World}{g0:Nat}{R:List (List Int)}(h:zAM W (some ⟨g0,0,none⟩) R){t n:Nat}(ht:t<R.length)(hw:∀r∈R,r.length=n)(hn:1<=n):
 ∃rb ro rc,W.cell? ⟨g0,t,none⟩=some (.slice (some ⟨rb,ro,none⟩) n rc)∧∀c,c<n->W.cell? ⟨rb,ro+c,none⟩=some (.int .i64 (vec (R[t]?.getD []) c)):=by
 obtain⟨b,off,ra,n',rc,e,hlt,h0,hn',hm,hi⟩:=h t ht
 cases e
 have hl:=hw _ (yAH ht)
 obtain⟨rb,ro,rfl,_,_⟩:=hi 0 (by omega)
 refine⟨rb,ro,rc,?_,fun c hc=>?_⟩
 ·rw[yAW]at h0;rw[h0,<- hn',hl]
 ·obtain⟨rb',ro',e,_,hx⟩:=hi c (by omega)
  cases e
  rw[hx,yAA ht];rfl
theorem pkernel_c(w:World)(a:Option Addr)(n cap:Nat)(M:List (List Int))(hn:M.length=n)(hn1:1<=n){W:Nat}(hM:MaskOk M W)(H:zAM w a M)(a2:Option Addr)(k cap2:Nat)(S:List Int)(hk:S.length=k)(hk1:1<=k)(hk9:k<=1000)(H2:zAH w a2 S)
 (hS:∀j∈S,0<=j∧j<(W:Int)):
 Calls Tryz.prog 179 #[.slice a n cap,.slice a2 k cap2] w fun e w'=>∃v base,e=.returned v∧w.heap.size<=base∧OwnM w' base v (zDJ M S)∧Below w.heap.size w w':=by
 have hn6:n<=6:=by rw[<- hn];exact hM.le6
 have HCh:=hid (zRU w a n cap M hn (by omega) H a2 k cap2 S hk (by omega) H2 (fun r hr j hj=>by rw[hM.wid r hr];exact hS j hj) 221 #[] (enters_of Tryz.func221 (by kernel_rfl) rfl) (fun _=>[]) (none_more w n) (fun i _=>⟨by simp,by simp;omega⟩))
 rw[zLS]at HCh
 have hC:MaskOk (zAO M S) k:=by rw[<- hk];exact hM.cols S
 have hCl:(zAO M S).length=n:=by rw[zBA,hn]
 have hker:zDJ M S=zII (RP (zAO M S) k) (JP (zAO M S) k) k:=by unfold zDJ;rw[hk]
 rw[hker]
 obtain⟨C,hCe⟩:=exq (zAO M S)
 rw[<- hCe]at HCh hC hCl⊢
 have HK2:=hid hk
 clear hker hCe hn H hk H2 hS hM
 have HRd:=hid (fun(W1:World) (base:Nat) (v0:Value) (hO:OwnT W1 base W1.heap.size v0 C) (hb:base<=W1.heap.size)=>zQV W1 base v0 C k hO hb hC.wid (by omega) (by omega) (by omega) k (yAC _) (fun t ht r hr=>⟨(hC.bnd ht r hr).1,fun x hx=>by have:=(hC.bnd ht r hr).2 x hx;omega⟩))
 have hJK:(JP C k).length<=n:=by rw[<- hCl];exact(hC.inv k).K_le
 have hRl:(RP C k).length=n:=by rw[zEJ,hCl]
 have hRw:∀r∈RP C k,r.length=k:=fun r hr=>(hC.bnd (yAC k) r hr).1
 have HRP:=hid (fun(t c:Nat)=>hC.rp_le t c)
 have HTI:=hid (fun(f t:Nat) (ht:t<=(JP C k).length)=>hC.times f ht)
 have HPX:=hid (fun(i:Nat) (hi:i<(JP C k).length)=>hC.pivx hi)
 have HRAW:=hid (fun(f:Nat) (hf:f<k) (hfJ:f∉JP C k) (c:Nat)=>hC.raw_le hf hfJ c)
 have HRAWT:=hid (fun(f:Nat) (hf:f<k) (hfJ:f∉JP C k) (i:Nat) (hi:i<(JP C k).length)=>hC.rp_le i f)
 obtain⟨R,hR⟩:=exq (RP C k)
 obtain⟨J,hJ⟩:=exq (JP C k)
 have e1:(pRed C k).1=R:=hR.symm
 have e2:(pRed C k).2=J:=hJ.symm
 rw[e1,e2]at HRd
 rw[<- hR]at hRl hRw HRP HTI HPX HRAW⊢
 rw[<- hJ]at hJK HTI HPX HRAW⊢
 obtain⟨K,hK⟩:=exq (J.length)
 rw[<- hK]at HRd hJK HTI
 have HKJ:=hid hK
 have HRL:=hid hRl
 have HRW:=hid hRw
 clear e1 e2 hR hJ hK hRl hRw HRAWT hC hCl
 go_enter Tryz.func179,Tryz.ntmps179
 go_wp2_with (go_at_call 220;refine HCh.out.mono ?_;rintro e w1 ⟨v0,rfl,hO1,hb1⟩;refine Stop.of ?_)
 refine Stop.go ?_
 have HRd1:=hid (HRd.out w1 w.heap.size v0 (OwnT.of hO1) hb1.size)
 clear hO1 HRd HCh
 go_wp2_with (go_at_call 195;refine HRd1.out.mono ?_;rintro e w2 ⟨vJ,rfl,hJo,hT2,hb2⟩;refine Stop.of ?_)
 refine Stop.go ?_
 rw[zKT]at hJo
 obtain⟨ja,jc,rfl,hJI,hJm⟩:=zCK hJo (by rw[zFI,HKJ.out])
 have hv0:∃g0 c0,v0=.slice (some ⟨g0,0,none⟩) n c0:=by
  obtain⟨g0,c0,_,_,e,_⟩:=hT2.at 0 (by rw[HRL.out];omega)
  exact⟨g0,c0,by rw[e,HRL.out]⟩
 obtain⟨g0,c0,rfl⟩:=hv0
 have hRA:=hT2.rowsAt HRL.out (fun r hr=>by rw[HRW.out r hr];unfold maxLen;omega)
 have HJI:=hid hJI
 have HRA:=hid hRA
 have HBW:=hid (show Below w.heap.size w w2 from hb1.trans hb2)
 have hsz:w.heap.size<=w2.heap.size:=by have:=hb1.size;have:=hb2.size;omega
 clear hJI hRA hJo hT2 hb1 hb2 HRd1
 go_wp2
 go_loopw [7,25] (fun v i wr=>∃f:Nat,f<=k∧i=.int .i64 f∧OwnM wr w2.heap.size v (zHM R J k f)∧Below w2.heap.size w2 wr) (fun _ i _=>k-(intOf i).toNat)
 case atStart=>exact⟨0,yAK _,rfl,OwnM.nil _ _,Below.refl _ _⟩
 case round=>
  obtain⟨f,hf,rfl,ho,hbk⟩:=hrel
  obtain⟨wo,hwo⟩:=exq (wr)
  subst hwo
  by_cases hlt:f<k
  ·have HO:=hid ho
   have HBK:=hid hbk
   have HJO:=hid (HJI.out.below hbk)
   have HRO:=hid (HRA.out.below hbk)
   have HCV:=hid (containsV wo ja K jc (zKU J) (by rw[zFI,HKJ.out]) hJm (HJI.out.below hbk) (f:Int))
   rw[zOY]at HCV
   clear ho hbk
   cases hfJ:J.contains f
   ·have hfn:f∉J:=by simpa using hfJ
    rw[hfJ]at HCV
    have HFN:=hid hfn
    clear hfJ hfn
    go_wp2_with (go_at_call 180;refine HCV.out.mono ?_;rintro e w3 ⟨rfl,rfl⟩)
    go_loopw [9,33] (fun T i wr=>∃t:Nat,t<=K∧i=.int .i64 t∧T=.int .i64 (zDL R f (J.take t) 0 1)∧Below wo.heap.size wo wr) (fun _ i _=>K-(intOf i).toNat)
    case atStart=>exact⟨0,yAK _,rfl,rfl,Below.refl _ _⟩
    case round=>
     obtain⟨t,ht,rfl,rfl,hbt⟩:=hrel
     by_cases hltt:t<K
     ·have htJ:t<J.length:=by rw[<- HKJ.out];exact hltt
      obtain⟨jb,jo,rfl,_,hjc⟩:=(HJO.out.below hbt) t (by rw[zFI];exact htJ)
      obtain⟨rb,ro,rc,hh,hcs⟩:=row_cells (HRO.out.below hbt) (t:=t) (by rw[HRL.out];omega) HRW.out hk1
      have hp0:=HPX.out t htJ
      have hsn:=zMR R f J[t] (J.take t) 0 1
      rw[<- yAI htJ,yAU,yAW,show min t J.length=t by omega]at hsn
      obtain⟨hT0,hT1⟩:=HTI.out f t ht
      obtain⟨hT2,hT3⟩:=HTI.out f (t+1) hltt
      have hjv:(zKU J)[t]?.getD 0=((J[t]:Nat):Int):=by unfold zKU;rw[yAZ,yAA htJ];rfl
      rw[hjv]at hjc
      obtain⟨p,hp⟩:=exq (J[t])
      rw[<- hp]at hp0 hsn hjc
      have c1:=hcs p hp0.2.2
      have c2:=hcs f hlt
      have hxb:=HRP.out t f
      obtain⟨x,hx⟩:=exq (vec (R[t]?.getD []) p)
      obtain⟨y,hy⟩:=exq (vec (R[t]?.getD []) f)
      rw[<- hx]at c1 hp0 hsn
      rw[<- hy]at c2 hxb hsn
      obtain⟨hx1,hx2,hpk⟩:=hp0
      obtain⟨T,hT⟩:=exq (zDL R f (J.take t) 0 1)
      rw[<- hT]at hT0 hT1 hsn⊢
      rw[hsn]at hT2 hT3
      have HSN:=hid hsn
      obtain⟨hn1',hn2'⟩:=nP_le (e:=y) hx1 hx2
      have HD1:=hid (fun(W:World)=>zGH W x y (by omega) (by omega))
      have HNP:=hid (show nP x y=x.tdiv (Int.gcd x y:Nat)from rfl)
      have hg0:0<((Int.gcd x y:Nat):Int):=by
       have:0<Int.gcd x y:=yEV _ (by omega)
       omega
      obtain⟨g,hg⟩:∃g:Int,g=(Int.gcd x y:Nat):=⟨_,rfl⟩
      rw[<- hg]at HD1 HNP hg0
      have hgz:¬(g=0):=by omega
      have hw1:IntKind.i64.wrap (x.tdiv g)=x.tdiv g:=by rw[<- HNP.out];exact IntWalk.i64_in _ (by omega)
      obtain⟨N',hN'⟩:∃N',N'=nP x y:=⟨_,rfl⟩
      rw[<- hN']at hn1' hn2' hT2 hT3 HNP HSN
      have HD2:=hid (fun(W:World)=>zGH W T N' (by omega) (by omega))
      have hg20:0<((Int.gcd T N':Nat):Int):=by
       have:0<Int.gcd T N':=yEV _ (by omega)
       omega
      obtain⟨g2,hg2⟩:∃g:Int,g=(Int.gcd T N':Nat):=⟨_,rfl⟩
      rw[<- hg2]at HD2 hg20 hT2 hT3 HSN
      have hgz2:¬(g2=0):=by omega
      have htd:=zFQ (show 1<=g2 by omega) (show-(720:Int)<=N'∧N'<=720 by omega)
      have hw2:IntKind.i64.wrap (N'.tdiv g2)=N'.tdiv g2:=IntWalk.i64_in _ (by omega)
      have hw3:IntKind.i64.wrap (T*N'.tdiv g2)=T*N'.tdiv g2:=IntWalk.i64_in _ (by omega)
      have hNe:x.tdiv g=N':=HNP.out.symm
      have i1:(0:Int)<=(t:Int):=by omega
      have i2:(t:Int)<(n:Int):=by omega
      have i3:(0:Int)<=(p:Int):=by omega
      have i4:(p:Int)<(k:Int):=by omega
      have i5:(0:Int)<=(f:Int):=by omega
      have i6:(f:Int)<(k:Int):=by omega
      have i7:(t:Int)<(K:Int):=by omega
      have HBT:=hid hbt
      clear hjv hp hx hy hT hsn hg hN' hg2 hcs htJ hbt
      go_wp2
      go_quiet ((go_at_call 206;exact Calls.quiet_of (HD1.out _)))
      go_wp2_with (go_at_call 206;refine(HD2.out _).mono ?_;rintro e w4 ⟨rfl,q4,rfl⟩)
      exact⟨⟨t+1,by omega,by go_num,by rw[HSN.out],zAI HBT.out _⟩,by simp[intOf];omega⟩
     ·obtain rfl:t=K:=by omega
      have e:J.take t=J:=yAL (by rw[HKJ.out];exact yAC _)
      obtain⟨hT0,hT1⟩:=HTI.out f t (yAC _)
      rw[e]at hT0 hT1⊢
      obtain⟨T,hT⟩:=exq (zDL R f J 0 1)
      rw[<- hT]at hT0 hT1⊢
      have HTT:=hid hT
      have HB5:=hid hbt
      obtain⟨w5,hw5⟩:=exq (wr)
      subst hw5
      have hmk:∀w,(Instr.makeSlice 24 (.int .i64 (k:Int)) (.int .i64 (k:Int))).run Tryz.prog w=.ok (.slice (some ⟨w.heap.size,0,none⟩) k k) (w.alloc (.cells (madeCells #[.int .i64 0] k) 3)):=
       fun w=>run_make_row' 24 3 (.int .i64 0) 8 Tryz.underlying24 zDN rfl .i64 .i64 k (by omega) (by omega) w
      obtain⟨h0,hh0⟩:=exq ((List.replicate k (0:Int)).set f T)
      have hh0l:h0.length=k:=by rw[hh0];simp
      obtain⟨w7,hw7⟩:=exq (w5.alloc (.cells ((madeCells #[.int .i64 0] k).setIfInBounds f (.int .i64 T)) 3))
      have hr7:zBD w7 w5.heap.size h0:=by rw[hw7,hh0];exact zMT w5 k f T
      have hb7:Below w5.heap.size w5 w7:=by rw[hw7];exact(Below.refl _ _).alloc (yAC _) _
      have hs7:w7.heap.size=w5.heap.size+1:=by rw[hw7];simp
      have i5:(0:Int)<=(f:Int):=by omega
      have i6:(f:Int)<(k:Int):=by omega
      have HSET6:=hid hr7
      have HH0:=hid hh0
      have HW7:=hid hw7
      have HB7:=hid hb7
      have HL0:=hid hh0l
      clear e hT hbt hh0 hr7 hb7 hw7 hh0l
      have hmsz:(madeCells #[Value.int .i64 0] k).size=k:=by rw[size_madeCells]
      go_wp2
      rw[<- HW7.out]
      clear hmk hmsz
      go_loopw [78] (fun i wr=>∃s:Nat,s<=t∧i=.int .i64 s∧zBD wr w5.heap.size (zEM (valP R f T) (J.take s) 0 h0)∧Keep (fun q=>q≠w5.heap.size) w7 wr) (fun i _=>t-(intOf i).toNat)
      case atStart=>exact⟨0,yAK _,rfl,HSET6.out,Keep.refl _ _⟩
      case round=>
       obtain⟨s,hs,rfl,hr,hkp⟩:=hrel
       have hb57:Below w5.heap.size w5 wr:=hkp.below HB7.out (by omega) (fun q hq=>by omega)
       have hbo:=zAA HB5.out hb57
       by_cases hlts:s<t
       ·have htJ:s<J.length:=by rw[<- HKJ.out];exact hlts
        obtain⟨jb,jo,rfl,_,hjc⟩:=(HJO.out.below hbo) s (by rw[zFI];exact htJ)
        obtain⟨rb,ro,rc,hh,hcs⟩:=row_cells (HRO.out.below hbo) (t:=s) (by rw[HRL.out];omega) HRW.out hk1
        have hp0:=HPX.out s htJ
        have hsn:=zKY (valP R f T) J[s] (J.take s) 0 h0
        rw[<- yAI htJ,yAU,yAW,show min s J.length=s by omega]at hsn
        have hjv:(zKU J)[s]?.getD 0=((J[s]:Nat):Int):=by unfold zKU;rw[yAZ,yAA htJ];rfl
        rw[hjv]at hjc
        obtain⟨p,hp⟩:=exq (J[s])
        rw[<- hp]at hp0 hsn hjc
        have c1:=hcs p hp0.2.2
        have c2:=hcs f hlt
        have hxb:=HRP.out s f
        have hval:valP R f T s p=(-(vec (R[s]?.getD []) f)*T).tdiv (vec (R[s]?.getD []) p):=rfl
        obtain⟨x,hx⟩:=exq (vec (R[s]?.getD []) p)
        obtain⟨y,hy⟩:=exq (vec (R[s]?.getD []) f)
        rw[<- hx]at c1 hp0 hval
        rw[<- hy]at c2 hxb hval
        rw[hval]at hsn
        obtain⟨hx1,hx2,hpk⟩:=hp0
        have hlenF:(zEM (valP R f T) (J.take s) 0 h0).length=k:=by rw[zDG,HL0.out]
        have c3:=hr.cell (j:=p) (by rw[hlenF];exact hpk)
        obtain⟨z3,hz3⟩:=exq ((zEM (valP R f T) (J.take s) 0 h0)[p]?.getD 0)
        rw[<- hz3]at c3
        have c4:=hr.frozen p
        have HSET:=hid (fun(X:World) (hX:X.heap[w5.heap.size]? =wr.heap[w5.heap.size]?) v=>(hr.keep hX).set p (by rw[hlenF];exact hpk) v)
        have hgs:=hr.lt
        have HSN:=hid hsn
        have HKP:=hid hkp
        have pm:=zGP (show-(720:Int)<= -y∧ -y<=720 by omega) (show-(720:Int)<=T∧T<=720 by omega)
        have td:=zFQ (show 1<=x by omega) (show-(518400:Int)<= -y*T∧ -y*T<=518400 by omega)
        have wn:IntKind.i64.wrap (-y)= -y:=IntWalk.i64_in _ (by omega)
        have wm:IntKind.i64.wrap (-y*T)= -y*T:=IntWalk.i64_in _ (by omega)
        have wq:IntKind.i64.wrap ((-y*T).tdiv x)=(-y*T).tdiv x:=IntWalk.i64_in _ (by omega)
        have hxz:¬(x=0):=by omega
        have i1:(0:Int)<=(s:Int):=by omega
        have i2:(s:Int)<(n:Int):=by omega
        have i3:(0:Int)<=(p:Int):=by omega
        have i4:(p:Int)<(k:Int):=by omega
        have i7:(s:Int)<(t:Int):=by omega
        clear hjv hp hx hy hsn hcs htJ hval hlenF hz3 hr hkp hb57 hbo pm td
        go_wp2
        go_still_tail 21,(by kernel_rfl)
        change wpList _ _ _ _ _ wr.drew
        go_wp2
        refine⟨⟨s+1,by omega,by go_num,?_,(HKP.out.drewN 1).trans (Keep.set wr.drew w5.heap.size p _)⟩,by simp[intOf];omega⟩
        rw[HSN.out]
        exact HSET.out wr.drew rfl _
       ·obtain rfl:s=t:=by omega
        have e:J.take s=J:=yAL (by rw[HKJ.out];exact yAC _)
        rw[e]at hr
        have hraw:zEM (valP R f T) J 0 h0=rawP R J k f:=by unfold rawP;rw[HH0.out,HTT.out]
        rw[hraw]at hr
        have hbR:BndL 4611686018427387904 (rawP R J k f):=by
         refine zFE (P:=fun x=> -((4611686018427387904:Nat):Int)<=x∧x<=((4611686018427387904:Nat):Int)) fun c=>?_
         have:=HRAW.out f hlt HFN.out c
         omega
        have HSH:=hid (zIS wr w5.heap.size k k (rawP R J k f) (rawP_len R J k f) (by unfold maxLen;omega) hr hbR)
        have HBO:=hid hbo
        have HB57:=hid hb57
        clear e hraw hr hbR hkp hb57 hbo
        go_wp2_with (go_at_call 223;refine HSH.out.mono ?_;rintro e w8 ⟨rfl,hs8,hk8⟩;refine Stop.of ?_)
        refine Stop.go ?_
        have hbo8:Below wo.heap.size wo w8:=by
         have h1:=HBO.out
         have h2:=HB5.out.size
         exact hk8.below h1 h1.size (fun q hq=>by omega)
        obtain⟨X,hX⟩:=exq (kerP R J k f)
        have hXs:zBI (rawP R J k f)=X:=hX.symm
        have hXl:X.length=k:=by rw[hX,kerP_len]
        rw[hXs]at hs8
        have hkt:=zNQ (R:=R) (n:=k) HFN.out
        rw[<- hX]at hkt
        have hle:=kernTo_le R J k f
        obtain⟨Kt,hKt⟩:=exq (zHM R J k f)
        have HO':=HO.out
        rw[<- hKt]at hkt hle HO'
        obtain⟨g',vs,ho,hin,he⟩:=HO'
        obtain⟨m,hm⟩:=exq (Kt.length)
        rw[<- hm]at ho hle
        obtain⟨va,vc,rfl⟩:=zAC ho
        have hb2a:Below wo.heap.size wo (w8.alloc (.cells #[.slice (some ⟨w5.heap.size,0,none⟩) k k] 24)):=hbo8.alloc hbo8.size _
        have M1:=hid (show m+1<=maxLen by unfold maxLen;omega)
        have M2:=hid (show(m+1)*24<=140737488355328 by omega)
        have M3:=hid (yAF HBK.out.size hb2a.size)
        have HO2':=hid (zBJ ho hb2a)
        have HE:=hid he
        have HIN:=hid hin
        have HSR2:=hid hs8
        have HB2':=hid hb2a
        have HOO:=hid ho
        have HML:=hid hm
        have HXL:=hid hXl
        have HKT:=hid hkt
        have hg5:wo.heap.size<=w5.heap.size:=HB5.out.size
        clear he hin hs8 hb2a ho hX hXs hXl hkt hle hKt hm hk8 hbo8
        go_wp2_with (at_builtin;refine zAN _ rfl (.tmp 107) (.tmp 109) 22 rfl w2.heap.size 24 (.slice none 0 0) 1 24 Tryz.underlying22 zEP rfl yBH (.slice va m vc) m vs rfl HO2'.out (some ⟨w8.heap.size,0,none⟩) 1 1 [.slice (some ⟨w5.heap.size,0,none⟩) k k] rfl rfl zBS (zBC w8 _ _) (zBL _ _ _) M1.out M2.out M3.out ?_;refine Stop.of ?_)
        refine Stop.go ?_
        intro a5 c5 w9 own5 g5
        have hsn9:OwnM w9 w2.heap.size (.slice a5 (m+1) c5) (Kt++[X]):=by
         have own5':w9.ownsRow w2.heap.size 24 1 (.slice a5 (m+1) c5) (Kt.length+1) (vs++[.slice (some ⟨w5.heap.size,0,none⟩) X.length k]):=by rw[<- HML.out,HXL.out];exact own5
         exact OwnM.snoc (by rw[<- HML.out];exact HOO.out) HIN.out HE.out HB2'.out (HSR2.out.keep (Below.heap_alloc _ _ _ HSR2.out.lt)) hg5 (yGM HXL.out) HBK.out.size g5 own5'
        have hB9:Below w2.heap.size w2 w9:=(HBK.out.trans (HB2'.out.mono HBK.out.size)).grown g5 M3.out (fun q hq=>(HO2'.out.lt q hq).1)
        rw[<- HKT.out]at hsn9
        go_wp2
        exact⟨⟨f+1,by omega,by go_num,hsn9,hB9⟩,by simp[intOf];omega⟩
   ·have hfi:f∈J:=by simpa using hfJ
    rw[hfJ]at HCV
    have HKT:=hid (zOW (R:=R) (n:=k) hfi)
    clear hfJ hfi
    go_wp2_with (go_at_call 180;refine HCV.out.mono ?_;rintro e w3 ⟨rfl,rfl⟩)
    exact⟨⟨f+1,by omega,by go_num,by rw[HKT.out];exact HO.out,HBK.out⟩,by simp[intOf];omega⟩
  ·obtain rfl:f=k:=by omega
   rw[kernTo_all]at ho
   go_wp2
   go_ret
   exact⟨_,w2.heap.size,rfl,hsz,ho,HBW.out.trans (hbk.mono hsz)⟩
end
end Go.Proofs.YtlffndehhhpgjaaGreat
