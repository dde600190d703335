/- Walks and plain laws for DualNormsRow, part 3. -/
import Derived.Maps.RangeWalk
import Derived.Deep.CutRange
import Derived.Sort.QuietIn
import Derived.Sort.LoopGhostIn
import Derived.Sort.CutIn
import Derived.Test.YtlffndehhhpgjaaGreatPkDualNormsRow2
namespace Go.Proofs.YtlffndehhhpgjaaGreat
set_option linter.unusedVariables false
set_option linter.unusedSimpArgs false
set_option maxRecDepth 100000
set_option maxHeartbeats 4000000
section
open Go.RowKit
theorem zIP:(Tryz.prog.info? 3).map (fun i=>(i.zero,i.size,i.bytes))=some (some (.int .i64 0),1,8):=by kernel_rfl
theorem li_ints:(Tryz.prog.info? 24).map (fun i=>(i.zero,i.size,i.bytes))=some (some (.slice none 0 0),1,24):=by kernel_rfl
theorem zHG(x:Int):∀u∈[Value.int .i64 x],u.oneCell'=true:=by intro u hu;simp at hu;subst hu;rfl
def PredRok(P:Program)(g:Nat)(lb:Array Value)(w:World)(ok:List Int->Prop)(p:List Int->Bool):Prop:=
 ∀(l:List Int) (v:Value) (W:World),ok l->Below w.heap.size w W->SlV W v l->Calls P g (#[v]++lb) W fun e W'=>e=.returned (.bool (p l))∧Below W.heap.size W W'
theorem indexRok(w:World)(a:Option Addr)(n cap:Nat)(l:List (List Int))(hn:l.length=n)(hm:n<=maxLen)(H:zAT w a l)(g:Nat)(lb:Array Value)(ok:List Int->Prop)(p:List Int->Bool)
 (eg:∀args w,(callFunc g args).run Tryz.prog w=.ok (.enter g args) w)(hp:PredRok Tryz.prog g lb w ok p)(hok:∀x∈l,ok x):
 Calls Tryz.prog 228 #[.slice a n cap,.func (.func g) #[] lb] w fun e w'=>e=.returned (.int .i64 (idxP p l 0))∧Below w.heap.size w w':=by
 have HN:=hid hn
 have HH:=hid H
 have HP:=hid hp
 have HOK:=hid hok
 clear hn H hp hok
 unfold maxLen at hm
 go_enter Tryz.func228,Tryz.ntmps228
 go_wp2
 go_loopw [8] (fun i wr=>∃k:Nat,k<=n∧i=.int .i64 k∧Below w.heap.size w wr∧∀i y,i<k->l[i]? =some y->p y=false) (fun i _=>n-(intOf i).toNat)
 case atStart=>exact⟨0,Nat.zero_le _,rfl,Below.refl _ _,fun i y h=>by omega⟩
 case round=>
  obtain⟨k,hk,rfl,hb,hno⟩:=hrel
  have HNO:=hid hno
  clear hno
  by_cases hlt:k<n
  ·have hkl:k<l.length:=by rw[HN.out];exact hlt
   obtain⟨b,off,ra,rn,rc,rfl,hbs,h0,hrn,hrm,hri⟩:=(HH.out.below hb) k hkl
   have HV:=hid (show SlV wr (.slice ra rn rc) l[k]from⟨ra,rn,rc,rfl,hrn,hrm,hri⟩)
   clear hrn hri
   have HK:=hid (List.getElem?_eq_getElem hkl)
   have HO:=hid (HOK.out _ (List.getElem_mem hkl))
   cases hpx:p l[k]
   ·go_wp2_with (refine(HP.out _ _ _ HO.out hb HV.out).mono ?_;rintro e w1 ⟨rfl,hb1⟩)
    refine⟨⟨k+1,by omega,by go_num,zAA hb hb1,?_⟩,by simp[intOf];omega⟩
    intro i y hi hy
    by_cases e:i=k
    ·subst e;rw[HK.out]at hy;cases hy;exact hpx
    ·exact HNO.out i y (by omega) hy
   ·go_wp2_with (refine(HP.out _ _ _ HO.out hb HV.out).mono ?_;rintro e w1 ⟨rfl,hb1⟩)
    go_ret
    refine⟨zCC ?_,zAA hb hb1⟩
    rw[zGQ p l 0 k _ HK.out hpx HNO.out];simp
  ·go_wp2
   go_ret
   refine⟨zCC ?_,hb⟩
   rw[zEX]
   intro x hx
   obtain⟨i,hi,e⟩:=List.getElem_of_mem hx
   exact HNO.out i x (by have:=HN.out;omega) (by rw[List.getElem?_eq_getElem hi,e])
theorem idxP_find{α:Type}(p:α->Bool):∀(l:List α) (k:Nat),idxP p l k=match l.findIdx? p with|some i=>((k+i:Nat):Int)|none=> -1
 | [],k=>rfl
 |x::l,k=>by
  unfold idxP
  rw[List.findIdx?_cons]
  by_cases h:p x=true
  ·rw[if_pos h,if_pos h];simp
  ·rw[if_neg h,if_neg h,idxP_find p l (k+1)]
   cases l.findIdx? p with
   |none=>rfl
   |some i=>simp only[Option.map_some];congr 1;omega
theorem reduce1(w:World)(b j:Nat)(hb:b<w.heap.size)(hc:w.cell? ⟨b,0,none⟩=some (.int .i64 j)):PredRok Tryz.prog 229 #[.pointer (some ⟨b,0,none⟩)] w (fun l=>j<l.length) (nz j):=by
 intro l v W hj hbw hv
 have hc':W.cell? ⟨b,0,none⟩=some (.int .i64 j):=(hbw.cell (p:=⟨b,0,none⟩) hb).trans hc
 obtain⟨ra,rn,rc,rfl,hrn,hrm,hri⟩:=hv
 obtain⟨b',off,rfl,hbs,hq⟩:=hri j hj
 have HNZ:=hid (show nz j l=decide (l[j]?.getD 0≠0)from rfl)
 obtain⟨x,hx⟩:=exq (l[j]?.getD 0)
 rw[<- hx]at hq HNZ
 have hjn:j<rn:=by omega
 unfold maxLen at hrm
 clear hx hri hrn hc hj
 by_cases h0:x=0
 all_goals
  have hd:(x !=0)=decide (x≠0):=by rw[Bool.eq_iff_iff];simp
  have HX:=hid h0
  first
   |rw[decide_eq_false (by simpa using h0)]at hd
   |rw[decide_eq_true h0]at hd
  clear h0
  go_enter Tryz.func229,Tryz.ntmps229
  go_wp2
  go_ret
  exact⟨zAR (by rw[HNZ.out];have:=HX.out;simp[this]),Below.refl _ _⟩
def zBB(L:List (List Int))(p:List Int)(k j i:Nat):List (List Int):=L.mapIdx (fun q row=>if q<i then zDK p k j q row else row)
theorem zIZ(L:List (List Int))(p:List Int)(k j i:Nat):(zBB L p k j i).length=L.length:=by simp[zBB]
theorem clearTo_zero(L:List (List Int))(p:List Int)(k j:Nat):zBB L p k j 0=L:=by
 refine List.ext_getElem (by simp[zBB]) fun i h1 h2=>?_
 simp[zBB]
theorem clearTo_all(L:List (List Int))(p:List Int)(k j:Nat):zBB L p k j L.length=L.mapIdx (zDK p k j):=by
 refine List.ext_getElem (by simp[zBB]) fun i h1 h2=>?_
 have:i<L.length:=by simpa using h2
 simp[zBB,this]
theorem zDD{L:List (List Int)}{p:List Int}{k j i q:Nat}(hq:q<L.length):(zBB L p k j i)[q]'(by rw[zIZ];exact hq)=if q<i then zDK p k j q L[q]else L[q]:=by simp[zBB]
theorem clearTo_set{L:List (List Int)}{p:List Int}{k j i:Nat}(hi:i<L.length):(zBB L p k j i).set i (zDK p k j i L[i])=zBB L p k j (i+1):=by
 refine List.ext_getElem (by simp[zBB]) fun q h1 h2=>?_
 have hq:q<L.length:=by simpa[zBB]using h2
 rw[List.getElem_set]
 by_cases e:i=q
 ·subst e;rw[if_pos rfl,zDD hi,if_pos (by omega)]
 ·rw[if_neg e,zDD hq,zDD hq]
  by_cases c:q<i
  ·rw[if_pos c,if_pos (by omega)]
  ·rw[if_neg c,if_neg (by omega)]
def Out(base top:Nat)(k:Nat):Prop:=k<base∨top<=k
theorem pRed_K(L:List (List Int)):∀t,(pRed L t).2.length<=L.length
 |0=>Nat.zero_le _
 |t+1=>by
  rw[zFN]
  have h:=pRed_K L t
  have hl:=zDI L t
  unfold zII
  split
  ·exact h
  ·rename_i a ha
   obtain⟨h1,_⟩:=zEO ha
   rw[List.length_drop]at h1
   simp only[List.length_append,List.length_singleton]
   omega
theorem rows_drop{w:World}{g0:Nat}{L:List (List Int)}(h:zAT w (some ⟨g0,0,none⟩) L)(k:Nat):zAT w (some ⟨g0,k,none⟩) (L.drop k):=by
 intro j hj
 have hjk:k+j<L.length:=by rw[List.length_drop]at hj;omega
 obtain⟨b,off,ra,n,cap,e,hlt,h0,hn,hm,hi⟩:=h (k+j) hjk
 cases e
 refine⟨g0,k,ra,n,cap,rfl,hlt,by simpa using h0,?_,hm,?_⟩<;>simp only[List.getElem_drop]<;>assumption
theorem zJL{R:List (List Int)}{J:List Nat}{j:Nat}(h:(R.drop J.length).findIdx? (nz j)=none):zII (R,J) j=(R,J):=by
 unfold zII;simp only[h]
theorem pStep_some{R:List (List Int)}{J:List Nat}{j a:Nat}(h:(R.drop J.length).findIdx? (nz j)=some a):zII (R,J) j=(zCA (zDZ R J.length (J.length+a)) J.length j,J++[j]):=by
 unfold zII;simp only[h]
theorem reduce_c(w:World)(base:Nat)(v0:Value)(L:List (List Int))(W:Nat)(hO:OwnT w base w.heap.size v0 L)(hbase:base<=w.heap.size)(hw:∀r∈L,r.length=W)(hW:W<=1000)(hN:L.length<=6)(hN1:0<L.length)(n:Nat)(hn:n<=W)
 (hB:∀t,t<=n->∀r∈(pRed L t).1,r.length=W∧BndL 1073741824 r):
 Calls Tryz.prog 195 #[v0,.int .i64 n] w fun e w'=>∃v,e=.returned v∧w'.ownsRow w.heap.size 3 1 v (pRed L n).2.length ((pRed L n).2.map (fun j:Nat=>Value.int .i64 j))∧OwnT w' base w.heap.size v0 (pRed L n).1∧Below base w w':=by
 have HO:=hid hO
 have HB:=hid hB
 have HL:=hid (fun t=>zDI L t)
 have HBA:=hid hbase
 have HSU:=hid (fun t=>zFN L t)
 obtain⟨g0,cap,_,_,hv,_⟩:=hO.at 0 hN1
 subst hv
 obtain⟨N,hNe⟩:=exq (L.length)
 rw[<- hNe]at HO HL hN hN1⊢
 have HN:=hid hNe
 have HW:=hid hw
 clear hO hB hbase hNe hw
 go_enter Tryz.func195,Tryz.ntmps195
 go_wp2
 go_loopw [5,13] (fun v i wr=>∃j:Nat,j<=n∧i=.int .i64 j∧wr.ownsRow w.heap.size 3 1 v (pRed L j).2.length ((pRed L j).2.map (fun j:Nat=>Value.int .i64 j))∧OwnT wr base w.heap.size (.slice (some ⟨g0,0,none⟩) N cap) (pRed L j).1∧Below base w wr) (fun _ i _=>n-(intOf i).toNat)
 case atStart=>exact⟨0,Nat.zero_le _,rfl,World.ownsRow_nil _ _ _ _,HO.out,Below.refl _ _⟩
 case round=>
  obtain⟨j,hj,rfl,hown,hT,hbk⟩:=hrel
  obtain⟨wo,hwo⟩:=exq (wr)
  subst hwo
  by_cases hlt:j<n
  ·have hlt':(j:Int)<(n:Int):=by omega
   have hrl:=HL.out j
   have hKN:=pRed_K L j
   have hsu:=HSU.out j
   have hbnd:=HB.out j (by omega)
   have hbnd2:=HB.out (j+1) (by omega)
   rw[hsu]at hbnd2
   have HSJ:=hid hsu
   obtain⟨R,hR⟩:=exq ((pRed L j).1)
   obtain⟨J,hJ⟩:=exq ((pRed L j).2)
   have hRJ:pRed L j=(R,J):=by rw[hR,hJ]
   rw[hRJ]at hbnd2
   rw[hRJ]at HSJ
   rw[<- hR]at hrl hT hbnd
   rw[<- hJ]at hown hKN
   rw[<- HN.out]at hKN
   obtain⟨K,hK⟩:=exq (J.length)
   rw[<- hK]at hown hKN
   have HK:=hid hK
   have HRL:=hid hrl
   have HBD:=hid hbnd
   have HBD2:=hid hbnd2
   have HT:=hid hT
   have HBK:=hid hbk
   have hsz:=hbk.size
   obtain⟨vp,vcap,rfl⟩:=zAH hown
   have HOW:=hid hown
   have hrows:=hT.rowsAt hrl (fun r hr=>by rw[(hbnd r hr).1];unfold maxLen;omega)
   obtain⟨_,_,_,hNc,hcm,hfz0,_⟩:=hT.info hrl
   unfold maxLen at hcm
   have HFZ:=hid hfz0
   have hbx:Below wo.heap.size wo (wo.alloc (.cells #[.int .i64 j] 3)):=(Below.refl _ _).alloc (Nat.le_refl _) _
   have HPR:=hid (reduce1 (wo.alloc (.cells #[.int .i64 j] 3)) wo.heap.size j (by simp) (by rw[World.cell?_alloc_at _ _ _ _ rfl];rfl))
   have HRW:=hid (rows_drop (hrows.below hbx) K)
   have HBX:=hid hbx
   clear hsu hR hJ hRJ hK hrl hbnd hbnd2 hown hT hbk hrows hbx
   by_cases hKlt:K<N
   ·have hk1:(0:Int)<=(K:Int):=by omega
    have hk2:(K:Int)<=(N:Int):=by omega
    have hcK:¬(cap=K):=by omega
    have HI:=hid (indexRok (wo.alloc (.cells #[.int .i64 j] 3)) (some ⟨g0,K,none⟩) (N-K) (cap-K) (R.drop K) (by rw[List.length_drop,HRL.out]) (by unfold maxLen;omega) HRW.out 229 #[.pointer (some ⟨wo.heap.size,0,none⟩)] _ _ (enters_of Tryz.func229 (by kernel_rfl) rfl) HPR.out (fun x hx=>by have:=(HBD.out x (List.mem_of_mem_drop hx)).1;omega))
    rw[idxP_find]at HI
    cases hf:(R.drop K).findIdx? (nz j)with
    |none=>
     rw[hf]at HI
     simp only[]at HI
     have HE:=hid (show pRed L (j+1)=(R,J)by rw[HSJ.out];exact zJL (by rw[<- HK.out];exact hf))
     clear hf HPR HRW hfz0
     go_wp2_with (go_at_call 228;refine HI.out.mono ?_;rintro e w1 ⟨rfl,hb1⟩)
     have hbw:=zAA HBX.out hb1
     refine⟨⟨j+1,by omega,by go_num,?_,?_,?_⟩,by simp[intOf];omega⟩
     ·rw[HE.out]
      simp only[]
      rw[<- HK.out]
      exact zBF HOW.out hbw
     ·rw[HE.out]
      exact HT.out.keep fun k _ _ hk=>hbw.block k hk
     ·exact HBK.out.trans (hbw.mono HBK.out.size |>.mono (by have:=HBA.out;omega))
    |some a=>
     rw[hf]at HI
     simp only[Nat.zero_add]at HI
     have HE:=hid (show pRed L (j+1)=(zCA (zDZ R K (K+a)) K j,J++[j])by rw[HSJ.out,pStep_some (by rw[<- HK.out];exact hf),<- HK.out])
     obtain⟨ha1,ha2⟩:=zEO hf
     rw[List.length_drop,HRL.out]at ha1
     rw[List.getElem_drop]at ha2
     have HA2:=hid ha2
     clear hf ha2 HPR HRW hfz0
     go_wp2_with (go_at_call 228;refine HI.out.mono ?_;rintro e w1 ⟨rfl,hb1⟩;refine Stop.of ?_)
     refine Stop.go ?_
     have hbw:=zAA HBX.out hb1
     have hbw':=hbw
     have hT1:OwnT w1 base w.heap.size (.slice (some ⟨g0,0,none⟩) N cap) R:=HT.out.keep fun k _ _ hk=>hbw.block k hk
     have hia:K+a<R.length:=by rw[HRL.out];omega
     have hiK:K<R.length:=by rw[HRL.out];omega
     obtain⟨gK,cK,c1,_,_,_,hsK,_⟩:=hT1.row HRL.out K hiK
     obtain⟨gA,cA,c2,_,_,_,hsA,_⟩:=hT1.row HRL.out (K+a) hia
     obtain⟨hdK,hhK⟩:=exq (Value.slice (some ⟨gK,0,none⟩) R[K].length cK)
     obtain⟨hdA,hhA⟩:=exq (Value.slice (some ⟨gA,0,none⟩) R[K+a].length cA)
     rw[<- hhK]at c1
     rw[<- hhA]at c2
     obtain⟨_,_,hg0,_,_,hz0,_⟩:=hT1.info HRL.out
     have HS:=hid (fun(X:World) (h:X.heap=w1.heap)=>show X.cell? ⟨g0,K,none⟩=some hdK∧X.cell? ⟨g0,K+a,none⟩=some hdA from⟨by unfold World.cell? at c1⊢;rw[h];exact c1,by unfold World.cell? at c2⊢;rw[h];exact c2⟩)
     have HZ:=hid hz0
     have hzK:=hz0 K
     have hzA:=hz0 (K+a)
     have HT1:=hid hT1
     have HHK:=hid hhK
     have HHA:=hid hhA
     have HC1:=hid c1
     have HC2:=hid c2
     have ha3:(0:Int)<=(K:Int)+(a:Int):=by omega
     have ha4:(K:Int)+(a:Int)<(N:Int):=by omega
     have ha5:(K:Int)<(N:Int):=by omega
     have HW:=hid (show IntKind.i64.wrap ((K:Int)+a)=(K:Int)+a from IntWalk.i64_in _ (by omega))
     clear hT1 hhK hhA hsK hsA hz0
     go_wp2
     have hwe:=HW.out
     refine zAG (fun j X=>w2 11 15 j=true->X.cell? ⟨g0,K,none⟩=some hdK∧X.cell? ⟨g0,K+a,none⟩=some hdA) (by kernel_rfl) ?_
     refine AnyT.takeP (i:=0) (v:=.slice (some ⟨g0,0,none⟩) N cap) rfl rfl rfl (by kernel_rfl) (by kernel_rfl) (by kernel_rfl) (by first|exact(fun _ _ _ h=>h)|exact(fun _ _ _ h=>absurd h.1 (by simp))) (by rfl) (by intro w';go_simp) ?_;go_frame
     refine AnyT.takeP (i:=1) (v:=.int .i64 K) rfl rfl rfl (by kernel_rfl) (by kernel_rfl) (by kernel_rfl) (by first|exact(fun _ _ _ h=>h)|exact(fun _ _ _ h=>absurd h.1 (by simp))) (by rfl) (by intro w';go_simp) ?_;go_frame
     refine AnyT.takeP (i:=2) (v:=.slice (some ⟨g0,0,none⟩) N cap) rfl rfl rfl (by kernel_rfl) (by kernel_rfl) (by kernel_rfl) (by first|exact(fun _ _ _ h=>h)|exact(fun _ _ _ h=>absurd h.1 (by simp))) (by rfl) (by intro w';go_simp) ?_;go_frame
     refine AnyT.takeP (i:=3) (v:=.int .i64 K) rfl rfl rfl (by kernel_rfl) (by kernel_rfl) (by kernel_rfl) (by first|exact(fun _ _ _ h=>h)|exact(fun _ _ _ h=>absurd h.1 (by simp))) (by rfl) (by intro w';go_simp) ?_;go_frame
     refine AnyT.takeP (i:=4) (v:=.int .i64 a) rfl rfl rfl (by kernel_rfl) (by kernel_rfl) (by kernel_rfl) (by first|exact(fun _ _ _ h=>h)|exact(fun _ _ _ h=>absurd h.1 (by simp))) (by rfl) (by intro w';go_simp) ?_;go_frame
     refine AnyT.takeP (i:=5) (v:=.int .i64 ((K:Int)+(a:Int))) rfl rfl rfl (by kernel_rfl) (by kernel_rfl) (by kernel_rfl) (by first|exact(fun _ _ _ h=>h)|exact(fun _ _ _ h=>absurd h.1 (by simp))) (by rfl) (by intro w';go_simp) ?_;go_frame
     refine AnyT.takeP (i:=6) (v:=.slice (some ⟨g0,0,none⟩) N cap) rfl rfl rfl (by kernel_rfl) (by kernel_rfl) (by kernel_rfl) (by first|exact(fun _ _ _ h=>h)|exact(fun _ _ _ h=>absurd h.1 (by simp))) (by rfl) (by intro w';go_simp) ?_;go_frame
     refine AnyT.takeP (i:=7) (v:=.int .i64 K) rfl rfl rfl (by kernel_rfl) (by kernel_rfl) (by kernel_rfl) (by first|exact(fun _ _ _ h=>h)|exact(fun _ _ _ h=>absurd h.1 (by simp))) (by rfl) (by intro w';go_simp) ?_;go_frame
     refine AnyT.takeP (i:=8) (v:=.int .i64 a) rfl rfl rfl (by kernel_rfl) (by kernel_rfl) (by kernel_rfl) (by first|exact(fun _ _ _ h=>h)|exact(fun _ _ _ h=>absurd h.1 (by simp))) (by rfl) (by intro w';go_simp) ?_;go_frame
     refine AnyT.takeP (i:=9) (v:=.int .i64 ((K:Int)+(a:Int))) rfl rfl rfl (by kernel_rfl) (by kernel_rfl) (by kernel_rfl) (by first|exact(fun _ _ _ h=>h)|exact(fun _ _ _ h=>absurd h.1 (by simp))) (by rfl) (by intro w';go_simp) ?_;go_frame
     refine AnyT.takeP (i:=10) (v:=.pointer (some ⟨g0,K+a,none⟩)) rfl rfl rfl (by kernel_rfl) (by kernel_rfl) (by kernel_rfl) (by first|exact(fun _ _ _ h=>h)|exact(fun _ _ _ h=>absurd h.1 (by simp))) (by rfl) (by intro w';go_simp) ?_;go_frame
     refine AnyT.takeP (i:=12) (v:=.slice (some ⟨g0,0,none⟩) N cap) rfl rfl rfl (by kernel_rfl) (by kernel_rfl) (by kernel_rfl) (by first|exact(fun _ _ _ h=>h)|exact(fun _ _ _ h=>absurd h.1 (by simp))) (by rfl) (by intro w';go_simp) ?_;go_frame
     refine AnyT.takeP (i:=13) (v:=.int .i64 K) rfl rfl rfl (by kernel_rfl) (by kernel_rfl) (by kernel_rfl) (by first|exact(fun _ _ _ h=>h)|exact(fun _ _ _ h=>absurd h.1 (by simp))) (by rfl) (by intro w';go_simp) ?_;go_frame
     refine AnyT.takeP (i:=14) (v:=.pointer (some ⟨g0,K,none⟩)) rfl rfl rfl (by kernel_rfl) (by kernel_rfl) (by kernel_rfl) (by first|exact(fun _ _ _ h=>h)|exact(fun _ _ _ h=>absurd h.1 (by simp))) (by rfl) (by intro w';go_simp) ?_;go_frame
     refine AnyT.takeS (i:=15) (v:=hdK) rfl rfl (by kernel_rfl) (by kernel_rfl) (by kernel_rfl) (by first|exact(fun _ _ _ h=>h)|exact(fun _ _ _ h=>absurd h.1 (by simp))) (by kernel_rfl) (by rfl) (by rintro w' ⟨q4,q5⟩;go_simp) (HS.out _ rfl) ?_;go_frame
     refine AnyT.takeS (i:=11) (v:=hdA) rfl rfl (by kernel_rfl) (by kernel_rfl) (by kernel_rfl) (by first|exact(fun _ _ _ h=>h)|exact(fun _ _ _ h=>absurd h.1 (by simp))) (by kernel_rfl) (by rfl) (by rintro w' ⟨q4,q5⟩;go_simp) (HS.out _ rfl) ?_;go_frame
     refine AnyT.takeP (i:=16) (v:=.pointer (some ⟨g0,K,none⟩)) rfl rfl rfl (by kernel_rfl) (by kernel_rfl) (by kernel_rfl) (by first|exact(fun _ _ _ h=>h)|exact(fun _ _ _ h=>absurd h.1 (by simp))) (by rfl) (by intro w';go_simp) ?_;go_frame
     obtain rfl:=HHA.out
     obtain rfl:=HHK.out
     refine AnyT.nx (i:=17) rfl ?_
     go_wp2
     refine⟨fun h=>absurd h (by decide),?_⟩
     refine AnyT.takeP (i:=18) (v:=.pointer (some ⟨g0,K+a,none⟩)) rfl rfl rfl (by kernel_rfl) (by kernel_rfl) (by kernel_rfl) (by first|exact(fun _ _ _ h=>h)|exact(fun _ _ _ h=>absurd h.1 (by simp))) (by rfl) (by intro w';go_simp) ?_;go_frame
     have hzA2:(w1.setCell ⟨g0,K,none⟩ (.slice (some ⟨gA,0,none⟩) R[K+a].length cA)).frozen? ⟨g0,K+a,none⟩=false:=by
      rw[World.frozen?_setCell];exact HZ.out _
     obtain⟨vy,hy⟩:=cell?_setCell_some (w:=w1) (p:=⟨g0,K,none⟩) (x:=.slice (some ⟨gA,0,none⟩) R[K+a].length cA) (q:=⟨g0,K+a,none⟩) (v:=.slice (some ⟨gA,0,none⟩) R[K+a].length cA) c2
     refine AnyT.nx (i:=19) rfl ?_
     go_wp2
     refine⟨fun h=>absurd h (by decide),?_⟩
     refine AnyT.done (by kernel_rfl) ?_ _
     obtain⟨hsw,hswk⟩:=HT1.out.swap hiK hia (by rw[HRL.out]) HC1.out HC2.out
     obtain⟨w2,hw2⟩:=exq (((w1.setCell ⟨g0,K,none⟩ (.slice (some ⟨gA,0,none⟩) R[K+a].length cA)).setCell ⟨g0,K+a,none⟩ (.slice (some ⟨gK,0,none⟩) R[K].length cK)).drew)
     rw[<- hw2]
     have hR2:(R.set K R[K+a]).set (K+a) R[K]=zDZ R K (K+a):=by
      unfold zDZ;rw[List.getElem?_eq_getElem hia,List.getElem?_eq_getElem hiK];rfl
     rw[hR2]at hsw
     have hT2:OwnT w2 base w.heap.size (.slice (some ⟨g0,0,none⟩) N cap) (zDZ R K (K+a)):=by rw[hw2];exact hsw
     have hk2:Keep (fun k=>k≠g0) w1 w2:=by
      rw[hw2]
      exact(((Keep.set w1 g0 K _).trans (Keep.set _ g0 (K+a) _)).drewN 1)
     have hR2K:(zDZ R K (K+a))[K]?.getD []=R[K+a]:=by
      rw[zIB hiK hia,if_pos rfl,List.getElem?_eq_getElem hia];rfl
     have hR2b:∀r∈zDZ R K (K+a),r.length=W∧BndL 1073741824 r:=by
      intro r hr
      obtain⟨q,hq,rfl⟩:=List.mem_iff_getElem.1 hr
      rw[zED]at hq
      have e:=zIB hiK hia q
      rw[List.getElem?_eq_getElem (by rw[zED];exact hq)]at e
      simp only[Option.getD_some]at e
      rw[e]
      have hlt:(if q=K then K+a else if q=K+a then K else q)<R.length:=by split<;>(try split)<;>omega
      rw[List.getElem?_eq_getElem hlt]
      exact HBD.out _ (List.getElem_mem hlt)
     have hR2l:(zDZ R K (K+a)).length=N:=by rw[zED,HRL.out]
     obtain⟨R2,hRe⟩:=exq (zDZ R K (K+a))
     rw[<- hRe]at hT2 hR2K hR2b hR2l HE
     have HAA:=hid HA2.out
     have hbx2:w2.cell? ⟨wo.heap.size,0,none⟩=some (.int .i64 j):=by
      have hb0:w1.cell? ⟨wo.heap.size,0,none⟩=some (.int .i64 j):=by
       rw[hb1.cell (p:=⟨wo.heap.size,0,none⟩) (by simp),World.cell?_alloc_at _ _ _ _ rfl];rfl
      exact hk2.cell hb0 (by omega)
     have HBX2:=hid hbx2
     have HT2:=hid hT2
     have HK2:=hid hk2
     have HR2B:=hid hR2b
     have HR2L:=hid hR2l
     have hKR:K<R2.length:=by omega
     have hrow:R2[K]=R[K+a]:=by rw[<- hR2K,List.getElem?_eq_getElem hKR];rfl
     have HNZ:=hid (show vec R2[K] j≠0 by rw[hrow];simpa[nz]using HA2.out)
     obtain⟨gP,cP,c3,hP1,hP2,hP3,hsP,hput⟩:=hT2.row hR2l K hKR
     have hjl:j<R2[K].length:=by rw[(hR2b _ (List.getElem_mem hKR)).1];omega
     have hPl:R2[K].length=W:=(hR2b _ (List.getElem_mem hKR)).1
     have hPb:=(hR2b _ (List.getElem_mem hKR)).2
     obtain⟨P,hP⟩:=exq (R2[K])
     rw[<- hP]at c3 hsP hput HNZ hjl hPl hPb
     have c4:=hsP.cell hjl
     have hPj:=hPb.get hjl
     obtain⟨x,hx⟩:=exq (P[j]?.getD 0)
     rw[<- hx]at c4 hPj
     have HX:=hid (show vec P j=x from hx.symm)
     rw[hPl]at c3
     have HSP:=hid hsP
     have HPUT:=hid hput
     have HP:=hid hP
     have HPL:=hid hPl
     have HPB:=hid hPb
     have HRE:=hid hRe
     have hjW:(j:Int)<(W:Int):=by omega
     have hj0:(0:Int)<=(j:Int):=by omega
     clear hw2 hsw hswk hR2 hT2 hk2 hR2K hR2b hR2l hRe hrow hsP hput hjl hPl hPb hx hP hbw c1 c2 hy hzK hzA hzA2 HZ HS HW HC1 HC2 HA2 HT1
     go_wp2
     go_quiet (fail)
     go_upto_if 50 with (fail)
     have HT3:=hid (show OwnT (w2.drewN nq) base w.heap.size (.slice (some ⟨g0,0,none⟩) N cap) R2 from HT2.out)
     have HK3:=hid (show Keep (fun k=>k≠g0) w1 (w2.drewN nq)from HK2.out.drewN nq)
     have HSP3:=hid (show zBE (w2.drewN nq) gP P from HSP.out)
     have HC3:=hid (show(w2.drewN nq).cell? ⟨g0,K,none⟩=some (.slice (some ⟨gP,0,none⟩) W cP)from c3)
     have HBX3:=hid (show(w2.drewN nq).cell? ⟨wo.heap.size,0,none⟩=some (.int .i64 j)from hbx2)
     have HPUT3:=hid (fun(w':World) (r':List Int) (h1:r'.length=P.length) (h2:zBE w' gP r') (h3:∀k,base<=k->k<w.heap.size->k<(w2.drewN nq).heap.size->k≠gP->w'.heap[k]? =(w2.drewN nq).heap[k]?)=>HPUT.out w' r' h1 h2 h3)
     clear HT2 HK2 HSP HBX2 HPUT c3 c4 hbx2
     generalize w2.drewN nq=w3 at HT3 HK3 HSP3 HC3 HBX3 HPUT3⊢
     go_cut [9,13]from 13 to 103 (fun s9 s13 wx=>s13=.int .i64 j∧OwnT wx base w.heap.size (.slice (some ⟨g0,0,none⟩) N cap) (R2.set K (posF P j))∧Keep (fun k=>k≠gP) w3 wx)
     case first=>
      by_cases hxn:x<0
      ·have c3:=HC3.out
       rw[show decide (x<0)=true from decide_eq_true hxn]
       have HXN:=hid hxn
       clear hxn
       go_wp2
       go_loopw [56] (fun i wz=>∃t:Nat,t<=W∧i=.int .i64 t∧zBE wz gP (zGR (fun x=> -x) P t)∧Keep (fun k=>k≠gP) w3 wz) (fun i _=>W-(intOf i).toNat)
       case atStart=>exact⟨0,Nat.zero_le _,rfl,by rw[zJP];exact HSP3.out,Keep.refl _ _⟩
       case round=>
        obtain⟨t,ht,rfl,hr,hkp⟩:=hrel
        by_cases hltt:t<W
        ·have htl:t<P.length:=by rw[HPL.out];exact hltt
         have d1:=hkp.cell HC3.out hP3
         have d2:=hr.cell (j:=t) (by rw[zFU];exact htl)
         rw[halfF_at _ htl]at d2
         have hz:=hr.frozen t
         have hbd:=HPB.out.get htl
         have hst:=halfF_set (fun x=> -x) htl
         have HSET:=hid (fun(X:World) (hX:X.heap[gP]? =wr.heap[gP]?) v=>(hr.keep hX).set t (by rw[zFU];exact htl) v)
         have hgs:=hr.lt
         obtain⟨y,hy⟩:=exq (P[t]?.getD 0)
         rw[<- hy]at d2 hbd hst
         have HST:=hid hst
         have HKP:=hid hkp
         have hwn:IntKind.i64.wrap (-y)= -y:=IntWalk.i64_in _ (by omega)
         have ht0:(0:Int)<=(t:Int):=by omega
         have ht1:(t:Int)<(W:Int):=by omega
         have hk0:(K:Int)<(N:Int):=by omega
         clear hr hkp hst hy htl c3
         go_wp2
         go_still_tail 14,(by kernel_rfl)
         change wpList _ _ _ _ _ wr.drew
         go_wp2
         refine⟨⟨t+1,by omega,by go_num,?_,(HKP.out.drewN 1).trans (Keep.set wr.drew gP t _)⟩,by simp[intOf];omega⟩
         rw[<- HST.out]
         exact HSET.out wr.drew rfl _
        ·obtain rfl:t=W:=by omega
         go_wp2
         go_meet
         case rel=>
          refine⟨rfl,?_,hkp⟩
          rw[<- HPL.out,halfF_all]at hr
          have e:posF P j=P.map (fun x=> -x):=by unfold posF negF;rw[HX.out,if_pos HXN.out]
          rw[e]
          exact HPUT3.out _ _ (by simp) hr (fun k _ _ hk hne=>hkp.block k hk hne)
      ·rw[show decide (x<0)=false from decide_eq_false hxn]
       have HXN:=hid hxn
       clear hxn
       go_wp2
       go_meet
       case rel=>
        refine⟨rfl,?_,Keep.refl _ _⟩
        have e:posF P j=P:=by unfold posF;rw[HX.out,if_neg (by have:=HXN.out;omega)]
        rw[e]
        exact HPUT3.out _ _ rfl HSP3.out (fun k _ _ hk hne=>rfl)
     case rest=>
      obtain⟨rfl,hT4,hk4⟩:=hcut
      obtain⟨Pp,hPp⟩:=exq (posF P j)
      rw[<- hPp]at hT4
      have hPpl:Pp.length=W:=by rw[hPp,zKH,HPL.out]
      have hPpb:BndL 1073741824 Pp:=by
       intro y hy
       obtain⟨i,hi,rfl⟩:=List.mem_iff_getElem.1 hy
       obtain⟨z,hz,e⟩:=zHP P j
       have h1:=e i
       rw[<- hPp,zDG hi]at h1
       have h2:=HPB.out.get (k:=i) (by rw[HPL.out,<- hPpl];exact hi)
       have h3:vec P i=P[i]?.getD 0:=rfl
       rw[h1,h3]
       rcases hz with rfl|rfl<;>omega
      have hPpj:vec Pp j≠0:=by
       have:=zHO (l:=P) (j:=j) HNZ.out
       rw[<- hPp]at this;omega
      obtain⟨L3,hL3⟩:=exq (R2.set K Pp)
      have hL3l:L3.length=N:=by rw[hL3,List.length_set,HR2L.out]
      have hL3K:L3[K]? =some Pp:=by subst hL3;exact List.getElem?_set_self hKR
      have hL3o:∀q (hq:q<L3.length),q≠K->(L3[q]).length=W∧BndL 1073741824 (L3[q]):=by
       intro q hq hne
       subst hL3
       rw[List.getElem_set_ne (Ne.symm hne)]
       exact HR2B.out _ (List.getElem_mem _)
      have hfin:(zCA R2 K j)=zBB L3 Pp K j N:=by
       rw[<- hL3l,clearTo_all,hL3]
       unfold zCA
       have:R2[K]?.getD []=P:=by rw[HP.out,List.getElem?_eq_getElem hKR];rfl
       rw[this,<- hPp]
      have HFIN:=hid hfin
      have HPPL:=hid hPpl
      have HPPB:=hid hPpb
      have HPPJ:=hid hPpj
      rw[<- hL3]at hT4
      have hcl0:zBB L3 Pp K j 0=L3:=clearTo_zero _ _ _ _
      have HT4:=hid (show OwnT wc base w.heap.size (.slice (some ⟨g0,0,none⟩) N cap) (zBB L3 Pp K j 0)by rw[hcl0];exact hT4)
      have HL3L:=hid hL3l
      have HL3K:=hid hL3K
      have HL3O:=hid hL3o
      have hbx4:wc.cell? ⟨wo.heap.size,0,none⟩=some (.int .i64 j):=hk4.cell HBX3.out (by omega)
      have HBX4:=hid hbx4
      have HK4:=hid (show Keep (Out base w.heap.size) w1 wc from(HK3.out.mono (fun k hk=>by rcases hk with h|h<;>omega)).trans (hk4.mono (fun k hk=>by rcases hk with h|h<;>omega)))
      clear hPp hPpl hPpb hPpj hL3l hL3K hL3o hfin hL3 hcl0 hT4 hbx4 hk4 HT3 HK3 HSP3 HC3 HBX3 HPUT3
      go_wp2
      go_loopw [76] (fun i wr=>∃t:Nat,t<=N∧i=.int .i64 t∧OwnT wr base w.heap.size (.slice (some ⟨g0,0,none⟩) N cap) (zBB L3 Pp K j t)∧Keep (Out base w.heap.size) wc wr) (fun i _=>N-(intOf i).toNat)
      case atStart=>exact⟨0,Nat.zero_le _,rfl,HT4.out,Keep.refl _ _⟩
      case round=>
       obtain⟨t,ht,rfl,hTt,hkt⟩:=hrel
       by_cases hltt:t<N
       ·have htL:t<L3.length:=by rw[HL3L.out];exact hltt
        have hMl:(zBB L3 Pp K j t).length=N:=by rw[zIZ,HL3L.out]
        obtain⟨gi,ci,d1,i1,i2,i3,hsp,hput⟩:=hTt.row hMl t (by rw[hMl];exact hltt)
        have hMt:(zBB L3 Pp K j t)[t]'(by rw[hMl];exact hltt)=L3[t]:=by rw[zDD htL,if_neg (by omega)]
        rw[hMt]at d1 hsp hput
        have hset:=clearTo_set (p:=Pp) (k:=K) (j:=j) htL
        have hself:(zBB L3 Pp K j t).set t L3[t]=zBB L3 Pp K j t:=by
         rw[<- hMt];exact List.set_getElem_self _
        have hbx5:wr.cell? ⟨wo.heap.size,0,none⟩=some (.int .i64 j):=hkt.cell HBX4.out (.inr (by omega))
        have HTT:=hid hTt
        have HKT:=hid hkt
        have ht0:(0:Int)<=(t:Int):=by omega
        have ht1:(t:Int)<(N:Int):=by omega
        by_cases htK:t=K
        ·have hb:((t:Int) !=(K:Int))=false:=by simp[htK]
         have hsame:zBB L3 Pp K j (t+1)=zBB L3 Pp K j t:=by
          rw[<- hset];unfold zDK;rw[if_neg (by simp[htK])];exact hself
         have HSM:=hid hsame
         have hlen:L3[t].length=W:=by
          have h1:=HL3K.out
          rw[<- htK,List.getElem?_eq_getElem htL]at h1
          rw[Option.some.inj h1,HPPL.out]
         rw[hlen]at d1
         clear htK hset hself hsame hTt hkt hput hsp hMt hlen htL hMl
         go_wp2
         refine⟨⟨t+1,by omega,by go_num,by rw[HSM.out];exact HTT.out,HKT.out⟩,by simp[intOf];omega⟩
        ·have hb:((t:Int) !=(K:Int))=true:=by simp;omega
         obtain⟨hlW,hlB⟩:=HL3O.out t htL htK
         obtain⟨X,hX⟩:=exq (L3[t])
         rw[<- hX]at d1 hsp hput hset hself hlW hlB
         have d2:=hsp.cell (j:=j) (by omega)
         obtain⟨y,hy⟩:=exq (X[j]?.getD 0)
         rw[<- hy]at d2
         have HY:=hid (show vec X j=y from hy.symm)
         have HTK:=hid htK
         have hMK:(zBB L3 Pp K j t)[K]'(by rw[hMl];exact hKlt)=Pp:=by
          have h1:=HL3K.out
          rw[List.getElem?_eq_getElem (by rw[HL3L.out];exact hKlt)]at h1
          rw[zDD (by rw[HL3L.out];exact hKlt)]
          have h2:L3[K]'(by rw[HL3L.out];exact hKlt)=Pp:=Option.some.inj h1
          rw[h2]
          split
          ·unfold zDK;rw[if_neg (by simp)]
          ·rfl
         obtain⟨gk,ck,e1,k1,k2,k3,hspk,hputk⟩:=hTt.row hMl K (by rw[hMl];exact hKlt)
         rw[hMK]at e1 hspk
         have hne:gi≠gk:=hTt.ne hMl (i:=t) (j:=K) (by rw[hMl];exact hltt) (by rw[hMl];exact hKlt) htK d1 e1
         rw[hlW]at d1
         rw[HPPL.out]at e1
         by_cases hy0:y=0
         ·have hyb:(y !=0)=false:=by simp[hy0]
          have hsame:zBB L3 Pp K j (t+1)=zBB L3 Pp K j t:=by
           rw[<- hset];unfold zDK;rw[if_neg (by rw[HY.out];simp[hy0])];exact hself
          have HSM:=hid hsame
          clear htK hset hself hsame hTt hkt hput hsp hMt hX hlW hlB hy hMK hspk hne hputk hy0 htL hMl
          go_wp2
          refine⟨⟨t+1,by omega,by go_num,by rw[HSM.out];exact HTT.out,HKT.out⟩,by simp[intOf];omega⟩
         ·have hyb:(y !=0)=true:=by simpa using hy0
          have hst:zBB L3 Pp K j (t+1)=(zBB L3 Pp K j t).set t (zDY X Pp j):=by
           rw[<- hset];unfold zDK;rw[if_pos ⟨htK,by rw[HY.out];exact hy0⟩]
          have HST:=hid hst
          have HCL:=hid (fun(Wd:World) (hW:Wd.heap=wr.heap)=>cleared_c Wd gi W ci gk ck X Pp hlW HPPL.out (by unfold maxLen;omega) (hsp.keep (by rw[hW])) (hspk.keep (by rw[hW])) hne hlB HPPB.out j (by omega) HPPJ.out)
          have HPU:=hid hput
          have HGI:=hid (And.intro i1 i2)
          have HLW:=hid hlW
          clear htK hset hself hst hTt hkt hput hsp hMt hX hlW hlB hy hMK hspk hne hputk hy0 htL hMl
          go_wp2
          go_still_tail 6,(by kernel_rfl)
          change wpList _ _ _ _ _ wr.drew
          generalize hwz:wr.drew=wz
          have HWZ:=hid hwz
          have HCZ:=hid (HCL.out wz (by rw[<- hwz];rfl))
          clear hwz
          go_wp2_with fail
          refine(HCZ.out).mono ?_
          rintro e w7 ⟨rfl,hs7,hk7⟩
          go_wp2
          have hk7':Keep (fun k=>k≠gi) wr w7:=(show Keep (fun k=>k≠gi) wr wz by rw[<- HWZ.out];exact(Keep.refl _ _).drewN 1).trans hk7
          refine⟨⟨t+1,by omega,by go_num,?_,HKT.out.trans (hk7'.mono fun k hk=>by have:=HGI.out;rcases hk with h|h<;>omega)⟩,by simp[intOf];omega⟩
          rw[HST.out]
          exact HPU.out _ _ (by rw[zJV (by rw[HLW.out,HPPL.out])]) hs7 (fun k _ _ hk hne=>hk7'.block k hk hne)
       ·obtain rfl:t=N:=by omega
        rw[<- HFIN.out]at hTt
        have HTT:=hid hTt
        have HKT:=hid (HK4.out.trans hkt)
        have hbx6:wr.cell? ⟨wo.heap.size,0,none⟩=some (.int .i64 j):=hkt.cell HBX4.out (.inr (by omega))
        have hsz6:=hkt.size
        have hkeep:Keep (fun k=>w.heap.size<=k) wo wr:=(Keep.of_below hbw').trans (HKT.out.mono fun k hk=>.inr hk)
        have HO6:=hid (own_keep HOW.out hkeep (fun k hk=>hk))
        have M1:=hid (show K+1<=maxLen by unfold maxLen;omega)
        have M2:=hid (show(K+1)*8<=140737488355328 by omega)
        have M3:=hid (Nat.le_trans (show w.heap.size<=wr.heap.size by have:=hkeep.size;omega) (zCG wr (.cells #[.int .i64 (j:Int)] 3)))
        have HKW:=hid (show Keep (Out base w.heap.size) wo wr from(Keep.of_below hbw').trans HKT.out)
        clear hTt hkt hkeep
        go_wp2_with (at_builtin;refine zBD _ rfl (.tmp 99) (.tmp 101) 24 rfl w.heap.size 3 (.int .i64 0) 1 8 Tryz.underlying24 zIP rfl Nat.one_pos (.slice vp K vcap) K _ rfl (HO6.out.alloc _) (some ⟨wr.heap.size,0,none⟩) 1 1 [.int .i64 (j:Int)] rfl rfl zCO (zCR wr _ _) (zHG _) M1.out M2.out M3.out ?_;refine Stop.of ?_)
        refine Stop.go ?_
        intro a3 c3 w8 own8 g8
        have hsw0:w.heap.size<=wr.heap.size:=by have:=HKW.out.size;omega
        have hkg:∀k,k<w.heap.size->w8.heap[k]? =wr.heap[k]? :=fun k hk=>by
         have h1:=g8.block k (by simp;omega) (fun e=>by have:=(HO6.out.lt k e.symm).1;omega)
         rw[h1]
         exact(Below.heap_alloc _ _ _ (by omega))
        have hsw:w.heap.size<=wr.heap.size:=by have:=HKW.out.size;omega
        have hb8:Below w.heap.size wr w8:=⟨g8.os,g8.tape,g8.output,by have:=g8.size;simp at this;omega,fun k hk=>hkg k hk⟩
        go_wp2
        refine⟨⟨j+1,by omega,by go_num,?_,?_,?_⟩,by simp[intOf];omega⟩
        ·rw[HE.out]
         simp only[List.length_append,List.length_singleton,List.map_append,List.map_cons,List.map_nil]
         rw[<- HK.out]
         exact own8
        ·rw[HE.out]
         exact HTT.out.keep fun k _ hk _=>hkg k hk
        ·exact HBK.out.trans ⟨hb8.os.trans HKW.out.os,hb8.tape.trans HKW.out.tape,hb8.output.trans HKW.out.output,Nat.le_trans HKW.out.size hb8.size,fun k hk=>(hkg k (by have:=HBA.out;omega)).trans (HKW.out.block k (by have:=HBA.out;omega) (.inl hk))⟩
   ·have hKe:K=N:=by omega
    have hd:R.drop K=[]:=List.drop_eq_nil_of_le (by rw[HRL.out];omega)
    have HE:=hid (show pRed L (j+1)=(R,J)by rw[HSJ.out];exact zJL (by rw[<- HK.out,hd];rfl))
    have HI:=hid (fun(a:Option Addr) (c:Nat)=>indexRok (wo.alloc (.cells #[.int .i64 j] 3)) a 0 c [] rfl (by decide) (fun i hi=>by simp at hi) 229 #[.pointer (some ⟨wo.heap.size,0,none⟩)] _ _ (enters_of Tryz.func229 (by kernel_rfl) rfl) HPR.out (fun x hx=>by simp at hx))
    simp only[idxP]at HI
    subst hKe
    have hk1:(0:Int)<=(K:Int):=by omega
    clear hd HPR HRW hfz0
    rcases Decidable.em (cap=K)with rfl|hcK
    all_goals
     go_wp2_with (go_at_call 228;refine(HI.out _ _).mono ?_;rintro e w1 ⟨rfl,hb1⟩)
     have hbw:=zAA HBX.out hb1
     refine⟨⟨j+1,by omega,by go_num,?_,?_,?_⟩,by simp[intOf];omega⟩
     ·rw[HE.out]
      simp only[]
      rw[<- HK.out]
      exact zBF HOW.out hbw
     ·rw[HE.out]
      exact HT.out.keep fun k _ _ hk=>hbw.block k hk
     ·exact HBK.out.trans (hbw.mono HBK.out.size |>.mono (by have:=HBA.out;omega))
  ·obtain rfl:j=n:=by omega
   go_wp2
   go_ret
   exact⟨_,rfl,hown,hT,hbk⟩
end
section
def upF(a:Int):Nat->List Int
 |0=>[]
 |m+1=>a::upF (a+1) m
theorem zFC:∀(m:Nat) (a:Int),(upF a m).length=m
 |0,_=>rfl
 |m+1,a=>by simp[upF,zFC m]
def comb:Nat->Nat->Int->List (List Int)
 |_,0,_=>[[]]
 |0,_+1,_=>[]
 |m+1,k+1,a=>(comb m k (a+1)).map (a:: ·)++comb m (k+1) (a+1)
def zFF(n:Int):List Int->Option (List Int)
 | []=>none
 |a::r=>match zFF n r with
  |some s=>some (a::s)
  |none=>if a+r.length+1<n then some (upF (a+1) (r.length+1))else none
theorem zFY:∀(m k:Nat) (a:Int),m<k->comb m k a=[]
 |0,k+1,a,_=>rfl
 |m+1,k+1,a,h=>by simp[comb,zFY m k (a+1) (by omega),zFY m (k+1) (a+1) (by omega)]
theorem zIY:∀(m k:Nat) (a:Int),k<=m->∃t,comb m k a=upF a k::t
 |m,0,a,_=>by cases m<;>exact⟨[],rfl⟩
 |m+1,k+1,a,h=>by
  obtain⟨t,ht⟩:=zIY m k (a+1) (by omega)
  exact⟨t.map (a:: ·)++comb m (k+1) (a+1),by simp[comb,ht,upF]⟩
theorem zCK:∀(m k:Nat) (a:Int),∀x∈comb m k a,x.length=k
 |m,0,a,x,h=>by cases m<;>(simp[comb]at h;simp[h])
 |0,k+1,a,x,h=>by simp[comb]at h
 |m+1,k+1,a,x,h=>by
  simp only[comb,List.mem_append,List.mem_map]at h
  rcases h with⟨y,hy,rfl⟩|h
  ·simp[zCK m k (a+1) y hy]
  ·exact zCK m (k+1) (a+1) x h
theorem zFZ:∀(m k:Nat) (a:Int),∀x∈comb m k a,x.Pairwise (· < ·)∧∀y∈x,a<=y∧y<a+m
 |m,0,a,x,h=>by cases m<;>(simp[comb]at h;simp[h])
 |0,k+1,a,x,h=>by simp[comb]at h
 |m+1,k+1,a,x,h=>by
  simp only[comb,List.mem_append,List.mem_map]at h
  rcases h with⟨y,hy,rfl⟩|h
  ·obtain⟨h1,h2⟩:=zFZ m k (a+1) y hy
   refine⟨List.pairwise_cons.2 ⟨fun z hz=>by have:=h2 z hz;omega,h1⟩,fun z hz=>?_⟩
   rcases List.mem_cons.1 hz with rfl|hz
   ·omega
   ·have:=h2 z hz;omega
  ·obtain⟨h1,h2⟩:=zFZ m (k+1) (a+1) x h
   exact⟨h1,fun z hz=>by have:=h2 z hz;omega⟩
theorem zKR:∀(m:Nat) (a:Int) (x:List Int),x.Pairwise (· < ·)->(∀y∈x,a<=y∧y<a+m)->x∈comb m x.length a
 |m,a,[],_,_=>by cases m<;>simp[comb]
 |0,a,y::x,_,h=>by have:=h y (by simp);omega
 |m+1,a,y::x,hp,h=>by
  rw[List.pairwise_cons]at hp
  simp only[List.length_cons,comb,List.mem_append,List.mem_map]
  by_cases e:y=a
  ·subst e
   exact .inl ⟨x,zKR m (y+1) x hp.2 (fun z hz=>by have:=hp.1 z hz;have:=h z (by simp[hz]);omega),rfl⟩
  ·right
   have:=h y (by simp)
   exact zKR m (a+1) (y::x) (List.pairwise_cons.2 hp) (fun z hz=>by
    rcases List.mem_cons.1 hz with rfl|hz'
    ·omega
    ·have h1:=hp.1 z hz';have:=h z hz;omega)
def Chn(n:Int)(e:Option (List Int)):List (List Int)->Prop
 | []=>True
 | [x]=>zFF n x=e
 |x::y::t=>zFF n x=some y∧Chn n e (y::t)
theorem Chn.append{n:Int}{e:Option (List Int)}{y:List Int}{t:List (List Int)}:∀{l:List (List Int)},Chn n (some y) l->Chn n e (y::t)->Chn n e (l++y::t)
 | [],_,h=>h
 | [x],h,h2=>⟨h,h2⟩
 |x::z::l,h,h2=>⟨h.1,Chn.append (l:=z::l) h.2 h2⟩
theorem Chn.cons{n a:Int}{k:Nat}:∀{l:List (List Int)},(∀x∈l,x.length=k)->Chn n none l->Chn n (if a+k+1<n then some (upF (a+1) (k+1))else none) (l.map (a:: ·))
 | [],_,_=>trivial
 | [x],hl,h=>by
   show(match zFF n x with|some s=>some (a::s)|none=>if a+x.length+1<n then some (upF (a+1) (x.length+1))else none)=_
   have h':zFF n x=none:=h
   rw[h',hl x (by simp)]
 |x::y::l,hl,h=>by
  refine⟨?_,Chn.cons (l:=y::l) (fun z hz=>hl z (by simp[List.mem_cons.1 hz])) h.2⟩
  show(match zFF n x with|some s=>some (a::s)|none=>_)=_
  rw[h.1]
theorem zKS:∀(m k:Nat) (a:Int),Chn (a+m) none (comb m k a)
 |m,0,a=>by cases m<;>exact rfl
 |0,k+1,a=>trivial
 |m+1,k+1,a=>by
  have h1:=Chn.cons (n:=a+(m+1:Nat)) (a:=a) (zCK m k (a+1)) (by have:=zKS m k (a+1);rwa [show a+1+(m:Int)=a+(m+1:Nat)by omega]at this)
  have h2:=zKS m (k+1) (a+1)
  rw[show a+1+(m:Int)=a+(m+1:Nat)by omega]at h2
  show Chn _ _ ((comb m k (a+1)).map (a:: ·)++comb m (k+1) (a+1))
  by_cases h:k+1<=m
  ·obtain⟨t,ht⟩:=zIY m (k+1) (a+1) h
   rw[if_pos (by omega)]at h1
   rw[ht]at h2⊢
   exact h1.append h2
  ·rw[if_neg (by omega)]at h1
   rw[zFY m (k+1) (a+1) (by omega),List.append_nil]
   exact h1
theorem Chn.at{n:Int}:∀{l:List (List Int)} {i:Nat} {x:List Int},Chn n none l->l[i]? =some x->l[i+1]? =zFF n x
 | [],i,x,_,h=>by simp at h
 | [y],0,x,h,hi=>by
   simp at hi;subst hi
   have h':zFF n y=none:=h
   rw[h'];rfl
 | [y],i+1,x,h,hi=>by simp at hi
 |y::z::l,0,x,h,hi=>by simp at hi;subst hi;rw[h.1];rfl
 |y::z::l,i+1,x,h,hi=>Chn.at (l:=z::l) h.2 (by simpa using hi)
theorem zKK{n:Int}:∀(m:Nat) (a:Int),a+m=n->zFF n (upF a m)=none
 |0,_,_=>rfl
 |m+1,a,h=>by
  show(match zFF n (upF (a+1) m)with|some s=>some (a::s)|none=>if a+(upF (a+1) m).length+1<n then _ else none)=_
  rw[zKK m (a+1) (by omega),zFC]
  simp only[]
  rw[if_neg (by omega)]
theorem nextS_at{n:Int}{m:Nat}{d:Int}(hd:d+m+1<n):∀u:List Int,zFF n (u++d::upF (n-m) m)=some (u++upF (d+1) (m+1))
 | []=>by
   show(match zFF n (upF (n-m) m)with|some s=>some (d::s)|none=>if d+(upF (n-m) m).length+1<n then some (upF (d+1) ((upF (n-m) m).length+1))else none)=_
   rw[zKK m (n-m) (by omega),zFC]
   simp only[]
   rw[if_pos hd];rfl
 |a::u=>by
  show(match zFF n (u++d::upF (n-m) m)with|some s=>some (a::s)|none=>_)=_
  rw[nextS_at hd u];rfl
def nextFrom(a:Int)(s:List Int):Int:=match s.getLast? with|some x=>x+1|none=>a
def extS(a n:Int)(s:List Int):List (List Int):=(upF (nextFrom a s) (n-nextFrom a s).toNat).map (fun j=>s++[j])
def lvls(n:Nat):Nat->List (List Int)
 |0=>comb n 0 0
 |k+1=>lvls n k++comb n (k+1) 0
def allS(n:Nat):List (List Int):=lvls n n
def grown(n at':Nat):List (List Int):=[[]]++((allS n).take at').flatMap (extS 0 n)
end
section
section
theorem Sp.mono{B B':Vec->Prop}(h:∀v,B v->B' v){v:Vec}(hv:Sp B v):Sp B' v:=hv.trans fun u hu=>.of (h u hu)
theorem RB.mono{K K':Nat}(h:K<=K'){W:Nat->Vec}{v:Vec}(hv:Sp (RB K W) v):Sp (RB K' W) v:=hv.mono fun u ⟨k,hk,e⟩=>⟨k,by omega,e⟩
theorem Sp.map{B B':Vec->Prop}(f:Vec->Vec)(h0:f (fun _=>0)=fun _=>0)(ha:∀u v,f (fun c=>u c+v c)=fun c=>f u c+f v c)(hm:∀(k:Int) u,f (fun c=>k*u c)=fun c=>k*f u c)
 (hB:∀v,B v->Sp B' (f v)){v:Vec}(h:Sp B v):Sp B' (f v):=by
 induction h with
 |of hb=>exact hB _ hb
 |zero=>rw[h0];exact .zero
 |add _ _ h1 h2=>rw[ha];exact .add h1 h2
 |mul k _ h1=>rw[hm];exact .mul k h1
 |div hk _ h1=>rw[hm]at h1;exact .div hk h1
def zDO(M:List (List Int))(S:List Int):List (List Int):=M.map (fun r=>S.map (fun j=>vec r j.toNat))
def zHL(S:List Int)(v:Vec):Vec:=fun c=>match S[c]? with|some j=>v j.toNat|none=>0
theorem colsF_vec(r:List Int)(S:List Int):vec (S.map (fun j=>vec r j.toNat))=zHL S (vec r):=by
 funext c
 unfold zHL
 show((S.map (fun j=>vec r j.toNat))[c]?).getD 0=_
 rw[List.getElem?_map]
 cases S[c]? <;>rfl
theorem colsF_rowv(M:List (List Int))(S:List Int)(q:Nat):rowv (zDO M S) q=zHL S (rowv M q):=by
 unfold rowv zDO
 rw[List.getElem?_map]
 cases M[q]? with
 |none=>funext c;unfold zHL;cases S[c]? <;>simp[vec]
 |some r=>simp only[Option.map_some,Option.getD_some];exact colsF_vec r S
theorem zBX(M:List (List Int))(S:List Int):(zDO M S).length=M.length:=by simp[zDO]
theorem colsF_wid(M:List (List Int))(S:List Int):∀r∈zDO M S,r.length=S.length:=by
 intro r hr
 obtain⟨r',_,rfl⟩:=List.mem_map.1 hr
 simp
theorem colsF_le{M:List (List Int)}(h:∀r∈M,∀c,-1<=vec r c∧vec r c<=1)(S:List Int):∀r∈zDO M S,∀c,-1<=vec r c∧vec r c<=1:=by
 intro r hr c
 obtain⟨r',hr',rfl⟩:=List.mem_map.1 hr
 rw[colsF_vec]
 unfold zHL
 split
 ·exact h r' hr' _
 ·decide
structure MaskOk (M:List (List Int)) (n:Nat):Prop where
 wid:∀r∈M,r.length=n
 le6:M.length<=6
 one:∀r∈M,∀c,-1<=vec r c∧vec r c<=1
theorem MaskOk.cols{M:List (List Int)}{n:Nat}(h:MaskOk M n)(S:List Int):MaskOk (zDO M S) S.length:=
 ⟨colsF_wid M S,by rw[zBX];exact h.le6,colsF_le h.one S⟩
theorem MaskOk.inv{M:List (List Int)}{n:Nat}(h:MaskOk M n)(t:Nat):RInv n M.length (rowv M) t (pRed M t).1 (pRed M t).2:=
 zBQ M h.wid t (fun j _ q=>zBN (by decide) (fun r hr=>h.one r hr j) q)
theorem MaskOk.below{M:List (List Int)}{n:Nat}(h:MaskOk M n){q:Nat}(h1:(pRed M n).2.length<=q)(h2:q<M.length)(c:Nat):rowv (pRed M n).1 q c=0:=by
 rcases Nat.lt_or_ge c n with hc|hc
 ·exact(h.inv n).zero q h1 h2 c hc
 ·exact zEV (h.inv n).wid q hc
def rankF(M:List (List Int))(n:Nat):Nat:=(pRed M n).2.length
end
section
def zBR(n:Nat)(S l:List Int)(k:Nat):List Int:=(List.range k).foldl (fun h i=>h.set (S[i]?.getD 0).toNat (l[i]?.getD 0)) (List.replicate n 0)
theorem zCS(n:Nat)(S l:List Int)(k:Nat):zBR n S l (k+1)=(zBR n S l k).set (S[k]?.getD 0).toNat (l[k]?.getD 0):=by
 unfold zBR;rw[List.range_succ,List.foldl_append];rfl
theorem zDA(n:Nat)(S l:List Int):∀k,(zBR n S l k).length=n
 |0=>by simp[zBR]
 |k+1=>by rw[zCS,List.length_set];exact zDA n S l k
theorem zKA{h:List Int}{c i:Nat}{x:Int}(hc:c<h.length):vec (h.set c x) i=if i=c then x else vec h i:=by
 unfold vec
 by_cases e:i=c
 ·subst e;rw[if_pos rfl,List.getElem?_set_self hc];rfl
 ·rw[if_neg e,List.getElem?_set_ne (Ne.symm e)]
def zDP(n:Nat)(S:List Int):Prop:=S.Pairwise (· < ·)∧∀y∈S,0<=y∧y<(n:Int)
theorem zDP.get{n:Nat}{S:List Int}(h:zDP n S){i:Nat}(hi:i<S.length):0<=S[i]∧S[i]<n:=h.2 _ (List.getElem_mem hi)
theorem zDP.inj{n:Nat}{S:List Int}(h:zDP n S){i j:Nat}(hi:i<S.length)(hj:j<S.length)(e:S[i]=S[j]):i=j:=by
 rcases Nat.lt_trichotomy i j with c|c|c
 ·have:=List.pairwise_iff_getElem.1 h.1 i j hi hj c;omega
 ·exact c
 ·have:=List.pairwise_iff_getElem.1 h.1 j i hj hi c;omega
theorem spread_in{n:Nat}{S l:List Int}(h:zDP n S):∀k,k<=S.length->∀i (hi:i<S.length),i<k->vec (zBR n S l k) (S[i]).toNat=l[i]?.getD 0
 |0,_,i,_,h0=>by omega
 |k+1,hk,i,hi,hik=>by
  have hkS:k<S.length:=by omega
  have hS:S[k]?.getD 0=S[k]:=by rw[List.getElem?_eq_getElem hkS];rfl
  have g1:=h.get hkS
  have g2:=h.get hi
  rw[zCS,hS,zKA (by rw[zDA];omega)]
  by_cases e:i=k
  ·subst e;rw[if_pos rfl]
  ·rw[if_neg (fun c=>e (h.inj hi hkS (by omega)))]
   exact spread_in h k (by omega) i hi (by omega)
theorem zJF{n:Nat}{S l:List Int}(h:zDP n S){c:Nat}(hc:(c:Int)∉S):∀k,k<=S.length->vec (zBR n S l k) c=0
 |0,_=>by
  unfold zBR vec
  simp only[List.range_zero,List.foldl_nil,List.getElem?_replicate]
  split<;>rfl
 |k+1,hk=>by
  have hkS:k<S.length:=by omega
  have hS:S[k]?.getD 0=S[k]:=by rw[List.getElem?_eq_getElem hkS];rfl
  have g1:=h.get hkS
  rw[zCS,hS,zKA (by rw[zDA];omega),if_neg (fun e=>hc (by
   have:(c:Int)=S[k]:=by omega
   rw[this];exact List.getElem_mem hkS))]
  exact zJF h hc k (by omega)
theorem comb_ok{n k:Nat}{S:List Int}(h:S∈comb n k 0):zDP n S:=by
 obtain⟨h1,h2⟩:=zFZ n k 0 S h
 exact⟨h1,fun y hy=>by have:=h2 y hy;omega⟩
theorem rank_le{M:List (List Int)}{n:Nat}(h:MaskOk M n):rankF M n<=M.length:=(h.inv n).K_le
end
section
def ofF(n d:Int):Int×Int:=
 let g:Int:=(Int.gcd n d:Nat)
 if d<0 then(n.tdiv (-g),d.tdiv (-g))else(n.tdiv g,d.tdiv g)
def zAK(n d:Int):Int×Int:=(n.tdiv (Int.gcd n d:Nat),d.tdiv (Int.gcd n d:Nat))
theorem zIK{n d:Int}(h:0<d):ofF n d=zAK n d:=by unfold ofF zAK;simp only[];rw[if_neg (by omega)]
def zAF(R:List (List Int))(y:List Int):List (List Int):=List.zipWith (fun r v=>r++[v]) R y
theorem zCY{R:List (List Int)}{y:List Int}(h:y.length=R.length):(zAF R y).length=R.length:=by simp[zAF,h]
theorem zIA{R:List (List Int)}{y:List Int}{r:List Int}(h:r∈zAF R y):∃r'∈R,∃v∈y,r=r'++[v]:=by
 unfold zAF at h
 obtain⟨i,hi,rfl⟩:=List.mem_iff_getElem.1 h
 rw[List.getElem_zipWith]
 simp at hi
 exact⟨_,List.getElem_mem (by omega),_,List.getElem_mem (by omega),rfl⟩
theorem vec_snoc_lt{r:List Int}{v:Int}{c:Nat}(h:c<r.length):vec (r++[v]) c=vec r c:=by
 unfold vec;rw[List.getElem?_append_left h]
structure MaskY (R:List (List Int)) (n:Nat) (Y:Nat):Prop where
 wid:∀r∈R,r.length=n+1
 le6:R.length<=6
 one:∀r∈R,∀c,c<n-> -1<=vec r c∧vec r c<=1
 all:∀r∈R,∀x∈r,-(Y:Int)<=x∧x<=Y
theorem MaskOk.addY{M:List (List Int)}{n:Nat}(h:MaskOk M n){y:List Int}(hy:y.length=M.length){Y:Nat}(hY1:1<=Y)(hY:∀v∈y,-(Y:Int)<=v∧v<=Y):MaskY (zAF M y) n Y:=by
 refine⟨fun r hr=>?_,by rw[zCY hy];exact h.le6,fun r hr c hc=>?_,fun r hr x hx=>?_⟩
 ·obtain⟨r',h1,v,_,rfl⟩:=zIA hr
  simp[h.wid r' h1]
 ·obtain⟨r',h1,v,_,rfl⟩:=zIA hr
  rw[vec_snoc_lt (by rw[h.wid r' h1];exact hc)];exact h.one r' h1 c
 ·obtain⟨r',h1,v,h2,rfl⟩:=zIA hr
  rcases List.mem_append.1 hx with hx|hx
  ·obtain⟨c,hc,rfl⟩:=List.mem_iff_getElem.1 hx
   have:=h.one r' h1 c
   rw[zDG hc]at this;omega
  ·simp at hx;subst hx;exact hY _ h2
def zAN(R:List (List Int))(n:Nat):List (Int×Int)×Int:=
 let s:=pRed R n
 if (s.1.drop s.2.length).any (nz n)then([],8)
 else if s.2.length<n then([],11)
 else((List.range n).map fun k=>ofF (vec (s.1[k]?.getD []) n) (vec (s.1[k]?.getD []) (jf s.2 k)),0)
def zBM(R:List (List Int))(n:Nat):List (Int×Int)×Int×Bool:=
 let s:=rRed R (n+1)
 if n∈s.piv then([],0,false)
 else((List.range s.piv.length).foldl (fun out i=>out.set (jf s.piv i) (zAK (vec (s.done[i]?.getD []) n) (vec (s.done[i]?.getD []) (jf s.piv i)))) (List.replicate n (0,1)),(n:Int)-s.piv.length,true)
def solveR(R:List (List Int))(n:Nat):List (Int×Int)×Int:=
 let s:=zBM R n
 if s.2.2=false then([],8)else if 0<s.2.1 then([],11)else(s.1,0)
theorem zJW:∀{J:List Nat} {a b:Nat},J.Pairwise (· < ·)->(∀x∈J,a<=x∧x<b)->J.length<=b-a
 | [],a,b,_,_=>Nat.zero_le _
 |x::J,a,b,hp,hb=>by
  rw[List.pairwise_cons]at hp
  have hx:=hb x (by simp)
  have:=zJW (a:=x+1) (b:=b) hp.2 (fun y hy=>by have:=hp.1 y hy;have:=hb y (by simp[hy]);omega)
  simp only[List.length_cons];omega
theorem zHV:∀{J:List Nat} {a n:Nat},J.Pairwise (· < ·)->(∀x∈J,a<=x∧x<a+n)->J.length=n->J=List.range' a n
 | [],a,n,_,_,h=>by simp at h;subst h;rfl
 |x::J,a,0,_,_,h=>by simp at h
 |x::J,a,n+1,hp,hb,h=>by
  rw[List.pairwise_cons]at hp
  have hx:=hb x (by simp)
  have hlen:J.length=n:=by simpa using h
  -- all others lie above x
  have hxa:x=a:=by
   rcases Nat.lt_or_ge a x with c|c
   ·exfalso
    have h2:=zJW (a:=a+1) (b:=a+(n+1)) (List.pairwise_cons.2 hp) (fun y hy=>by
     have:=hb y hy
     rcases List.mem_cons.1 hy with rfl|hy'
     ·omega
     ·have:=hp.1 y hy';omega)
    simp at h2;omega
   ·omega
  subst hxa
  rw[List.range'_succ]
  congr 1
  exact zHV hp.2 (fun y hy=>by have:=hp.1 y hy;have:=hb y (by simp[hy]);omega) hlen
theorem solve_same{R:List (List Int)}{n Y:Nat}(h:MaskY R n Y):zAN R n=solveR R n:=by
 have hi:=zBQ R h.wid n (fun j hj q=>zBN (by decide) (fun r hr=>h.one r hr j hj) q)
 have hl:=zDI R n
 unfold zAN solveR zBM
 simp only[]
 by_cases c:((pRed R n).1.drop (pRed R n).2.length).any (nz n)=true
 ·rw[if_pos c]
  obtain⟨r,hr,hz⟩:=List.any_eq_true.1 c
  obtain⟨i,hilt,rfl⟩:=List.mem_iff_getElem.1 hr
  rw[List.getElem_drop]at hz
  have hmem:=red_more (m:=n+1) h.wid h.one (Nat.le_refl _) (q:=(pRed R n).2.length+i) (by omega) (by rw[List.length_drop]at hilt;omega) (by
   rw[zEG (by rw[List.length_drop]at hilt;omega)];simpa[nz]using hz)
  rw[if_pos hmem];simp
 ·rw[if_neg c]
  have h0:∀q,(pRed R n).2.length<=q->q<R.length->∀x,n<=x->x<n+1->rowv (pRed R n).1 q x=0:=by
   intro q h1 h2 x hx1 hx2
   obtain rfl:x=n:=by omega
   rw[zEG (by omega)]
   have hm:(pRed R x).1[q]'(by omega)∈(pRed R x).1.drop (pRed R x).2.length:=by
    rw[List.mem_drop_iff_getElem];exact⟨q-(pRed R x).2.length,by omega,by congr 1;omega⟩
   rcases Classical.em (vec ((pRed R x).1[q]'(by omega)) x=0)with e|e
   ·exact e
   ·exact absurd (List.any_eq_true.2 ⟨_,hm,by simpa[nz]using e⟩) c
  obtain⟨e1,e2⟩:=red_same (m:=n+1) h.wid h.one (Nat.le_refl _) h0
  rw[e2,<- e1]
  have hnm:n∉(pRed R n).2:=fun hm=>by have:=hi.lt _ hm;omega
  rw[if_neg hnm]
  simp only[Bool.true_eq_false,if_false]
  have hKn:(pRed R n).2.length<=n:=by
   have:=zJW (a:=0) (b:=n) hi.asc (fun x hx=>⟨Nat.zero_le _,hi.lt x hx⟩)
   omega
  by_cases c2:(pRed R n).2.length<n
  ·rw[if_pos c2,if_pos (by omega)]
  ·rw[if_neg c2,if_neg (by omega)]
   have hK:(pRed R n).2.length=n:=by omega
   have hJ:=zHV (a:=0) hi.asc (fun x hx=>⟨Nat.zero_le _,by have:=hi.lt x hx;omega⟩) hK
   have hjf:∀k,k<n->jf (pRed R n).2 k=k:=by
    intro k hk
    unfold jf
    rw[hJ,List.getElem?_range' hk];simp
   congr 1
   rw[hK]
   -- the places filled one after the other
   have key:∀t,t<=n->(List.range t).foldl (fun(out:List (Int×Int)) i=>out.set (jf (pRed R n).2 i) (zAK (vec (((pRed R n).1.take n)[i]?.getD []) n) (vec (((pRed R n).1.take n)[i]?.getD []) (jf (pRed R n).2 i)))) (List.replicate n (0,1))=
    (List.range t).map (fun k=>ofF (vec ((pRed R n).1[k]?.getD []) n) (vec ((pRed R n).1[k]?.getD []) (jf (pRed R n).2 k)))++List.replicate (n-t) (0,1):=by
    intro t
    induction t with
    |zero=>intro _;simp
    |succ t ih=>
     intro ht
     rw[List.range_succ,List.foldl_append,ih (by omega),List.map_append]
     simp only[List.foldl_cons,List.foldl_nil,List.map_cons,List.map_nil]
     rw[hjf t (by omega),List.getElem?_take_of_lt (by omega)]
     have hpos:=(hi.pp t (by omega)).2
     rw[hjf t (by omega)]at hpos
     rw[zIK (show 0<vec ((pRed R n).1[t]?.getD []) t from hpos)]
     rw[show n-t=(n-(t+1))+1 by omega,List.replicate_succ,List.set_append_right _ _ (by simp)]
     simp
   have:=key n (Nat.le_refl _)
   rw[Nat.sub_self]at this
   simp only[List.replicate_zero,List.append_nil]at this
   rw[this]
end
section
def dotS(u v:Vec)(n:Nat):Int:=sm (fun c=>u c*v c) n
theorem dotS_sp{B:Vec->Prop}{h:Vec}{n:Nat}(hB:∀u,B u->dotS u h n=0){v:Vec}(hv:Sp B v):dotS v h n=0:=by
 unfold dotS at*
 induction hv with
 |of hb=>exact hB _ hb
 |zero=>rw[zAY (g:=fun _=>0) (fun k _=>by simp),zEE]
 | @add u v _ _ h1 h2=>rw[zAY (g:=fun c=>u c*h c+v c*h c) (fun k _=>by grind),sm_add,h1,h2];rfl
 | @mul k u _ h1=>rw[zAY (g:=fun c=>k*(u c*h c)) (fun k _=>by grind),zIE,h1];simp
 | @div k u hk _ h1=>
   rw[zAY (g:=fun c=>k*(u c*h c)) (fun k _=>by grind),zIE]at h1
   exact zBO hk h1
abbrev RP(M:List (List Int))(n:Nat):List (List Int):=(pRed M n).1
abbrev JP(M:List (List Int))(n:Nat):List Nat:=(pRed M n).2
theorem MaskOk.span{M:List (List Int)}{n:Nat}(h:MaskOk M n){v:Vec}:Sp (RB (JP M n).length (rowv (RP M n))) v↔Sp (RB M.length (rowv M)) v:=
 (h.inv n).span (fun q h1 h2 c=>h.below h1 h2 c)
end
section
end
end
section
open Go.RowKit
def allI(n:Nat):List Int:=(List.range n).map (fun j:Nat=>(j:Int))
theorem allI_len(n:Nat):(allI n).length=n:=by simp[allI]
theorem allI_succ(n:Nat):allI (n+1)=allI n++[(n:Int)]:=by unfold allI;rw[List.range_succ,List.map_append];rfl
theorem all_c(w:World)(n:Nat)(hn:n<=1000):
 Calls Tryz.prog 194 #[.int .i64 n] w fun e w'=>∃v,e=.returned v∧w'.ownsRow w.heap.size 3 1 v n ((allI n).map (Value.int .i64))∧Below w.heap.size w w':=by
 go_enter Tryz.func194,Tryz.ntmps194
 go_wp2
 go_loopw [3,6] (fun v i wr=>∃k:Nat,k<=n∧i=.int .i64 k∧wr.ownsRow w.heap.size 3 1 v k ((allI k).map (Value.int .i64))∧Below w.heap.size w wr) (fun _ i _=>n-(intOf i).toNat)
 case atStart=>exact⟨0,Nat.zero_le _,rfl,World.ownsRow_nil _ _ _ _,Below.refl _ _⟩
 case round=>
  obtain⟨k,hk,rfl,hown,hbk⟩:=hrel
  by_cases hlt:k<n
  ·obtain⟨va,vc,rfl⟩:=zAH hown
   have HO:=hid hown
   have M1:=hid (show k+1<=maxLen by unfold maxLen;omega)
   have M2:=hid (show(k+1)*8<=140737488355328 by omega)
   have M3:=hid (Nat.le_trans hbk.size (zCG wr (.cells #[.int .i64 (k:Int)] 3)))
   clear hown
   go_wp2_with (at_builtin;refine zBD _ rfl (.tmp 9) (.tmp 11) 24 rfl w.heap.size 3 (.int .i64 0) 1 8 Tryz.underlying24 zIP rfl Nat.one_pos (.slice va k vc) k _ rfl (HO.out.alloc _) (some ⟨wr.heap.size,0,none⟩) 1 1 [.int .i64 (k:Int)] rfl rfl zCO (zCR wr _ _) (zHG _) M1.out M2.out M3.out ?_;refine Stop.of ?_)
   refine Stop.go ?_
   intro a3 c3 w3 own3 g3
   have hB3:Below w.heap.size w w3:=(hbk.alloc hbk.size _).grown g3 M3.out (fun k hk=>(HO.out.lt k hk).1)
   go_wp2
   refine⟨⟨k+1,by omega,by go_num,?_,hB3⟩,by simp[intOf];omega⟩
   rw[allI_succ]
   simpa using own3
  ·obtain rfl:k=n:=by omega
   go_wp2
   go_ret
   exact⟨_,rfl,hown,hbk⟩
def MoreP(P:Program)(g:Nat)(lb:Array Value)(w:World)(N:Nat)(mo:Nat->List Int):Prop:=
 ∀(i:Nat) (W:World),i<N->Below w.heap.size w W->Calls P g (#[.int .i64 i]++lb) W fun e W'=>∃a c,e=.returned (.slice a (mo i).length c)∧zAJ W' a (mo i)∧Below W.heap.size W W'
def zDE(M:List (List Int))(S:List Int)(mo:Nat->List Int):List (List Int):=M.mapIdx (fun i r=>S.map (fun j=>vec r j.toNat)++mo i)
theorem zFH(M:List (List Int))(S:List Int)(mo:Nat->List Int):(zDE M S mo).length=M.length:=by simp[zDE]
theorem zHI{M:List (List Int)}{S:List Int}{mo:Nat->List Int}{k:Nat}(hk:k<M.length):(zDE M S mo).take (k+1)=(zDE M S mo).take k++[S.map (fun j=>vec M[k] j.toNat)++mo k]:=by
 rw[List.take_succ_eq_append_getElem (by rw[zFH];exact hk)]
 simp[zDE]
theorem zKN(l:List Int):∀u∈l.map (Value.int .i64),u.oneCell'=true:=by intro u hu;obtain⟨x,_,rfl⟩:=List.mem_map.1 hu;rfl
theorem chosen_c(w:World)(a:Option Addr)(n cap:Nat)(M:List (List Int))(hn:M.length=n)(hn6:n<=1000)(H:zAT w a M)(a2:Option Addr)(k2 cap2:Nat)(S:List Int)(hk2:S.length=k2)(hk21:k2<=1000)(H2:zAJ w a2 S)
 (hS:∀r∈M,∀j∈S,0<=j∧j<r.length)(g:Nat)(lb:Array Value)(eg:∀args w,(callFunc g args).run Tryz.prog w=.ok (.enter g args) w)(mo:Nat->List Int)(hmo:MoreP Tryz.prog g lb w n mo)(hml:∀i,i<n->(mo i).length<=1000∧1<=k2+(mo i).length):
 Calls Tryz.prog 220 #[.slice a n cap,.slice a2 k2 cap2,.func (.func g) #[] lb] w fun e w'=>∃v,e=.returned v∧OwnM w' w.heap.size v (zDE M S mo)∧Below w.heap.size w w':=by
 have HN:=hid hn
 have HH:=hid H
 have HK2:=hid hk2
 have HH2:=hid H2
 have HS:=hid hS
 have HMO:=hid hmo
 have HML:=hid hml
 have HCT:=hid (fun(k:Nat) (hk:k<M.length)=>zHI (M:=M) (S:=S) (mo:=mo) hk)
 have HCL:=hid (zFH M S mo)
 obtain⟨C,hC⟩:=exq (zDE M S mo)
 rw[<- hC]at HCT HCL⊢
 clear hn H hk2 H2 hS hmo hml hC
 go_enter Tryz.func220,Tryz.ntmps220
 go_wp2
 go_loopw [7,15] (fun v i wr=>∃k:Nat,k<=n∧i=.int .i64 k∧OwnM wr w.heap.size v (C.take k)∧Below w.heap.size w wr) (fun _ i _=>n-(intOf i).toNat)
 case atStart=>exact⟨0,Nat.zero_le _,rfl,OwnM.nil _ _,Below.refl _ _⟩
 case round=>
  obtain⟨k,hk,rfl,ho,hbk⟩:=hrel
  obtain⟨wo,hwo⟩:=exq (wr)
  subst hwo
  by_cases hlt:k<n
  ·have hkM:k<M.length:=by rw[HN.out];exact hlt
   obtain⟨b,off,ra,rn,rc,rfl,hbs,hq0,hrn,hrm,hri⟩:=(HH.out.below hbk) k hkM
   have htk:=HCT.out k hkM
   have hsr:=HS.out M[k] (List.getElem_mem hkM)
   obtain⟨r,hr⟩:=exq (M[k])
   rw[<- hr]at htk hsr hrn hri
   have hlen:(C.take k).length=k:=by rw[List.length_take,HCL.out];omega
   have HL:=hid hlen
   have HTK:=hid htk
   have HSR:=hid hsr
   have HRN:=hid hrn
   have HRI:=hid hri
   have HO:=hid ho
   have HBK:=hid hbk
   obtain⟨va,vc,hv⟩:∃va vc,u7=.slice va k vc:=by
    obtain⟨_,_,ho1,_⟩:=ho
    obtain⟨a',c',e⟩:=zAH ho1
    exact⟨a',c',by rw[e,hlen]⟩
   subst hv
   clear hr htk hsr hrn hri hkM ho hlen
   go_wp2
   go_loopw [10,22] (fun v i wr=>∃t:Nat,t<=k2∧i=.int .i64 t∧wr.ownsRow wo.heap.size 3 1 v t (((S.take t).map (fun j=>vec r j.toNat)).map (Value.int .i64))∧Below wo.heap.size wo wr) (fun _ i _=>k2-(intOf i).toNat)
   case atStart=>exact⟨0,Nat.zero_le _,rfl,World.ownsRow_nil _ _ _ _,Below.refl _ _⟩
   case round=>
    obtain⟨t,ht,rfl,hown,hbt⟩:=hrel
    by_cases hlt2:t<k2
    ·have htS:t<S.length:=by rw[HK2.out];exact hlt2
     obtain⟨b2,off2,rfl,hbs2,hc2⟩:=(HH2.out.below (zAA HBK.out hbt)) t htS
     have hpp:=HSR.out S[t] (List.getElem_mem htS)
     have hg2:S[t]?.getD 0=S[t]:=by rw[List.getElem?_eq_getElem htS];rfl
     rw[hg2]at hc2
     have htk2:(S.take (t+1)).map (fun j=>vec r j.toNat)=(S.take t).map (fun j=>vec r j.toNat)++[vec r (S[t]).toNat]:=by
      rw[List.take_succ_eq_append_getElem htS,List.map_append];rfl
     obtain⟨q,hq⟩:∃q:Nat,S[t]=q:=⟨(S[t]).toNat,by omega⟩
     rw[hq]at hc2 hpp htk2
     rw[show((q:Int)).toNat=q by omega]at htk2
     have hqr:q<r.length:=by omega
     obtain⟨b3,off3,rfl,hbs3,hc3⟩:=(HRI.out.below hbt) q hqr
     have hqn:(q:Int)<(rn:Int):=by have:=HRN.out;omega
     have hq0':(0:Int)<=(q:Int):=by omega
     obtain⟨x,hx⟩:=exq (r[q]?.getD 0)
     have hxv:vec r q=x:=hx.symm
     rw[<- hx]at hc3
     rw[hxv]at htk2
     obtain⟨la,lc,rfl⟩:=zAH hown
     have HTK2:=hid htk2
     have HOW:=hid hown
     have M1:=hid (show t+1<=maxLen by unfold maxLen;omega)
     have M2:=hid (show(t+1)*8<=140737488355328 by omega)
     have M3:=hid (Nat.le_trans hbt.size (zCG wr (.cells #[.int .i64 x] 3)))
     clear hpp hg2 htk2 hq hx hxv hown htS hqr
     go_wp2_with (at_builtin;refine zBD _ rfl (.tmp 26) (.tmp 31) 24 rfl wo.heap.size 3 (.int .i64 0) 1 8 Tryz.underlying24 zIP rfl Nat.one_pos (.slice la t lc) t _ rfl (HOW.out.alloc _) (some ⟨wr.heap.size,0,none⟩) 1 1 [.int .i64 x] rfl rfl zCO (zCR wr _ _) (zHG _) M1.out M2.out M3.out ?_;refine Stop.of ?_)
     refine Stop.go ?_
     intro a3 c3 w3 own3 g3
     have hB3:Below wo.heap.size wo w3:=(hbt.alloc hbt.size _).grown g3 M3.out (fun k hk=>(HOW.out.lt k hk).1)
     go_wp2
     refine⟨⟨t+1,by omega,by go_num,?_,hB3⟩,by simp[intOf];omega⟩
     rw[HTK2.out]
     simpa using own3
    ·obtain rfl:t=k2:=by omega
     rw[List.take_of_length_le (by rw[HK2.out];exact Nat.le_refl _)]at hown
     obtain⟨la,lc,rfl⟩:=zAH hown
     have HMK:=hid (HMO.out k wr hlt (zAA HBK.out hbt))
     have HOW:=hid hown
     have hml:=HML.out k hlt
     obtain⟨m,hm⟩:=exq (mo k)
     rw[<- hm]at hml HMK HTK
     obtain⟨ml,hmle⟩:=exq (m.length)
     rw[<- hmle]at hml HMK
     have HME:=hid hmle
     obtain⟨hml1,hml2⟩:=hml
     clear hown hm hmle
     go_wp2_with (refine HMK.out.mono ?_;rintro e w2 ⟨ma,mc,rfl,hmi,hb2⟩;refine Stop.of ?_)
     refine Stop.go ?_
     have HO2:=hid (zBF HOW.out hb2)
     have HMI:=hid hmi
     have HB2:=hid (zAA hbt hb2)
     have N1:=hid (show t+ml<=maxLen by unfold maxLen;omega)
     have N2:=hid (show(t+ml)*8<=140737488355328 by omega)
     have N3:=hid (show wo.heap.size<=w2.heap.size from HB2.out.size)
     have N4:=hid (show(m.map (Value.int .i64)).length=ml*1 by rw[List.length_map,HME.out];omega)
     have N5:=hid (show ma=none->ml=0 from fun h=>by rw[HME.out];exact ints_none hmi h)
     have N6:=hid (zIS hmi)
     clear hmi hb2 hbt
     go_wp2_with (at_builtin;refine zBD _ rfl (.tmp 35) (.tmp 38) 24 rfl wo.heap.size 3 (.int .i64 0) 1 8 Tryz.underlying24 zIP rfl Nat.one_pos (.slice la t lc) t _ rfl HO2.out ma ml mc (m.map (Value.int .i64)) rfl N4.out N5.out N6.out (zKN _) N1.out N2.out N3.out ?_;refine Stop.of ?_)
     refine Stop.go ?_
     intro a3 c3 w3 own3 g3
     have hB3:Below wo.heap.size wo w3:=HB2.out.grown g3 N3.out (fun k hk=>(HO2.out.lt k hk).1)
     rw[<- List.map_map,<- List.map_append]at own3
     obtain⟨X,hX⟩:=exq (S.map (fun j=>vec r j.toNat)++m)
     rw[<- hX]at own3 HTK
     have hXl:X.length=t+ml:=by rw[hX,List.length_append,List.length_map,HK2.out,HME.out]
     obtain⟨gn,cc,e3,hgn,hsr⟩:=zIC own3 hXl (by omega)
     cases e3
     have HXL:=hid hXl
     obtain⟨g',vs,ho,hin,he⟩:=HO.out
     rw[HL.out]at ho
     have hb2a:Below wo.heap.size wo (w3.alloc (.cells #[.slice (some ⟨gn,0,none⟩) (t+ml) c3] 24)):=hB3.alloc hB3.size _
     have M1:=hid (show k+1<=maxLen by unfold maxLen;omega)
     have M2:=hid (show(k+1)*24<=140737488355328 by omega)
     have M3:=hid (Nat.le_trans HBK.out.size hb2a.size)
     have HO2':=hid (zBF ho hb2a)
     have HE:=hid he
     have HIN:=hid hin
     have HSR2:=hid hsr
     have HB2':=hid hb2a
     have HOO:=hid ho
     have HC3:=hid (own_cap own3)
     clear he hin hsr hb2a ho own3 hX hXl hml1 hml2 hB3 g3
     go_wp2_with (at_builtin;refine zBD _ rfl (.tmp 34) (.tmp 40) 22 rfl w.heap.size 24 (.slice none 0 0) 1 24 Tryz.underlying22 li_ints rfl Nat.one_pos (.slice va k vc) k vs rfl HO2'.out (some ⟨w3.heap.size,0,none⟩) 1 1 [.slice (some ⟨gn,0,none⟩) (t+ml) c3] rfl rfl zCO (zCR w3 _ _) (zFK _ _ _) M1.out M2.out M3.out ?_;refine Stop.of ?_)
     refine Stop.go ?_
     intro a5 c5 w5 own5 g5
     have hsn:OwnM w5 w.heap.size (.slice a5 (k+1) c5) (C.take k++[X]):=by
      have own5':w5.ownsRow w.heap.size 24 1 (.slice a5 (k+1) c5) ((C.take k).length+1) (vs++[.slice (some ⟨gn,0,none⟩) X.length c3]):=by rw[HL.out,HXL.out];exact own5
      exact OwnM.snoc (by rw[HL.out];exact HOO.out) HIN.out HE.out HB2'.out (HSR2.out.keep (Below.heap_alloc _ _ _ HSR2.out.lt)) hgn (by rw[HXL.out];exact HC3.out) HBK.out.size g5 own5'
     have hB5:Below w.heap.size w w5:=(HBK.out.trans (HB2'.out.mono HBK.out.size)).grown g5 M3.out (fun q hq=>(HO2'.out.lt q hq).1)
     rw[<- HTK.out]at hsn
     go_wp2
     exact⟨⟨k+1,by omega,by go_num,hsn,hB5⟩,by simp[intOf];omega⟩
  ·obtain rfl:k=n:=by omega
   rw[List.take_of_length_le (by rw[HCL.out,HN.out];exact Nat.le_refl _)]at ho
   go_wp2
   go_ret
   exact⟨_,rfl,ho,hbk⟩
end
section
section
theorem sm_add_at{f g:Nat->Int}{p:Nat}{x:Int}:∀{n:Nat},p<n->(∀c,c<n->f c=g c+if c=p then x else 0)->sm f n=sm g n+x
 |n,hp,h=>by rw[zAY h,sm_add,zEF (f:=fun c=>if c=p then x else 0) hp (fun k _ hne=>if_neg hne),if_pos rfl]
theorem dotS_set{r:Vec}{h:List Int}{p n:Nat}{x:Int}(hp:p<n)(hl:h.length=n):dotS r (vec (h.set p x)) n=dotS r (vec h) n+r p*(x-vec h p):=by
 unfold dotS
 refine sm_add_at hp fun c hc=>?_
 rw[zKA (by omega)]
 by_cases e:c=p
 ·subst e;rw[if_pos rfl,if_pos rfl];grind
 ·rw[if_neg e,if_neg e];grind
theorem zFJ{n:Nat}{S l:List Int}(h:zDP n S){k:Nat}(hk:k<S.length):∀t,t<=k->vec (zBR n S l t) (S[k]).toNat=0
 |0,_=>by
  unfold zBR vec
  simp only[List.range_zero,List.foldl_nil,List.getElem?_replicate]
  split<;>rfl
 |t+1,ht=>by
  have htS:t<S.length:=by omega
  have hS:S[t]?.getD 0=S[t]:=by rw[List.getElem?_eq_getElem htS];rfl
  have g1:=h.get htS
  have g2:=h.get hk
  rw[zCS,hS,zKA (by rw[zDA];omega),if_neg (fun c=>by have:=h.inj hk htS (by omega);omega)]
  exact zFJ h hk t (by omega)
theorem zJT{n:Nat}{S l:List Int}(h:zDP n S)(r:Vec):∀k,k<=S.length->dotS r (vec (zBR n S l k)) n=sm (fun i=>zHL S r i*vec l i) k
 |0,_=>by
  unfold dotS
  rw[zAY (g:=fun _=>0) (fun c _=>?_),zEE];rfl
  unfold zBR vec
  simp only[List.range_zero,List.foldl_nil,List.getElem?_replicate]
  split<;>simp
 |k+1,hk=>by
  have hkS:k<S.length:=by omega
  have hS:S[k]?.getD 0=S[k]:=by rw[List.getElem?_eq_getElem hkS];rfl
  have g1:=h.get hkS
  rw[zCS,hS,dotS_set (by omega) (zDA n S l k),zJT h r k (by omega),zFJ h hkS k (Nat.le_refl _)]
  have:zHL S r k=r (S[k]).toNat:=by unfold zHL;rw[List.getElem?_eq_getElem hkS]
  show _=sm _ k+zHL S r k*vec l k
  rw[this]
  unfold vec
  simp
end
section
def unitF(N i:Nat):List Int:=(List.replicate N 0).set i 1
def extF(M:List (List Int)):List (List Int):=M.mapIdx (fun i r=>r++unitF M.length i)
theorem vec_app_lt{a b:List Int}{c:Nat}(h:c<a.length):vec (a++b) c=vec a c:=by unfold vec;rw[List.getElem?_append_left h]
theorem vec_app_ge{a b:List Int}{c:Nat}(h:a.length<=c):vec (a++b) c=vec b (c-a.length):=by unfold vec;rw[List.getElem?_append_right h]
abbrev RE(M:List (List Int))(n:Nat):List (List Int):=(pRed (extF M) n).1
def zCZ(n:Nat)(v:Vec):Vec:=fun c=>if c<n then v c else 0
theorem truncV_sp{B B':Vec->Prop}{n:Nat}(hB:∀v,B v->Sp B' (zCZ n v)){v:Vec}(h:Sp B v):Sp B' (zCZ n v):=
 Sp.map (zCZ n) (by funext c;unfold zCZ;split<;>rfl) (fun u v=>by funext c;unfold zCZ;split<;>simp) (fun k u=>by funext c;unfold zCZ;split<;>simp) hB h
theorem zEB{M:List (List Int)}{n:Nat}(h:MaskOk M n){y:List Int}(hy:y.length=M.length){q:Nat}(hq:q<M.length)(c:Nat):
 rowv (zAF M y) q c=if c<n then rowv M q c else if c=n then vec y q else 0:=by
 have hw:=h.wid _ (List.getElem_mem hq)
 have e:(zAF M y)[q]? =some (M[q]++[y[q]]):=by unfold zAF;rw[List.getElem?_zipWith,List.getElem?_eq_getElem hq,List.getElem?_eq_getElem (by omega)]
 unfold rowv
 rw[e,List.getElem?_eq_getElem hq]
 simp only[Option.getD_some]
 by_cases hc:c<n
 ·rw[if_pos hc,vec_app_lt (by rw[hw];exact hc)]
 ·rw[if_neg hc,vec_app_ge (by rw[hw];omega),hw]
  by_cases e2:c=n
  ·rw[if_pos e2,e2,Nat.sub_self,zDG (l:=[y[q]]) (by simp),zDG (l:=y) (by omega)];rfl
  ·rw[if_neg e2,zGY (by simp;omega)]
end
end
section
open Go.RowKit
def intsJ(J:List Nat):List Int:=J.map (fun j:Nat=>(j:Int))
theorem intsJ_len(J:List Nat):(intsJ J).length=J.length:=by simp[intsJ]
theorem intsJ_vals(J:List Nat):J.map (fun j:Nat=>Value.int .i64 j)=(intsJ J).map (Value.int .i64):=by unfold intsJ;rw[List.map_map];rfl
theorem zCP{W:World}{base:Nat}{v:Value}{n:Nat}{l:List Int}(h:W.ownsRow base 3 1 v n (l.map (Value.int .i64)))(hn:l.length=n):∃a c,v=.slice a n c∧zAJ W a l∧n<=maxLen:=by
 subst hn
 rcases h.2 with⟨rfl,h0⟩|⟨g,cap,cur,rfl,hbg,hgg,hnc,hcm,hsz,htk⟩
 ·exact⟨none,0,by rw[h0],fun j hj=>by omega,by rw[h0];decide⟩
 ·refine⟨_,cap,rfl,?_,by omega⟩
  have:=(zEA.own (S:=fun _=>True) (base:=base) ⟨h.1,.inr ⟨g,cap,cur,rfl,hbg,hgg,hnc,hcm,hsz,htk⟩⟩ (show l.length<=maxLen by omega) (fun _ _=>trivial)).ints
  exact this.2.2
end
section
open Go.RowKit
theorem zFA{M:Mask}(h:okM M=true):MaskOk M (zAL M)∧1<=M.length∧M.length<=6∧1<=zAL M∧zAL M<=10:=by
 unfold okM inB at h
 simp only[Bool.and_eq_true,decide_eq_true_eq,List.all_eq_true]at h
 obtain⟨⟨h1,h2⟩,h3⟩:=h
 have hr:∀r∈M,r.length=zAL M∧(1<=r.length∧r.length<=10)∧∀x∈r,-1<=x∧x<=1:=fun r hr=>by
  have h4:=h3 r hr
  unfold zJM inB at h4
  simp only[Bool.and_eq_true,decide_eq_true_eq,List.all_eq_true]at h4
  obtain⟨h5,⟨h6,h7⟩,h8⟩:=h4
  exact⟨h5,⟨by omega,by omega⟩,h8⟩
 have h0:M.length≠0:=by omega
 have hm0:M[0]'(by omega)∈M:=List.getElem_mem _
 obtain⟨k1,k2,_⟩:=hr _ hm0
 refine⟨⟨fun r hr'=>(hr r hr').1,by omega,fun r hr' c=>zEC (P:=fun x=> -1<=x∧x<=1) (by decide) (hr r hr').2.2 c⟩,by omega,by omega,by omega,by omega⟩
theorem zFL{w:World}{a:Option Addr}{M:Mask}(H:zAT w a M)(h0:0<M.length):
 ∃b off ra rc,a=some ⟨b,off,none⟩∧b<w.heap.size∧w.cell? ⟨b,off,none⟩=some (.slice ra (zAL M) rc):=by
 obtain⟨b,off,ra,rn,rc,rfl,hb,hc,hn,_,_⟩:=H 0 h0
 refine⟨b,off,ra,rc,rfl,hb,?_⟩
 have e:zAL M=rn:=by unfold zAL;rw[List.getElem?_eq_getElem h0];exact hn
 rw[e];simpa using hc
end
section
theorem upF_get:∀(m:Nat) (a:Int) (j:Nat),j<m->(upF a m)[j]? =some (a+j)
 |0,_,_,h=>by omega
 |m+1,a,0,_=>by simp[upF]
 |m+1,a,j+1,h=>by
  show(upF (a+1) m)[j]? =_
  rw[upF_get m (a+1) j (by omega)];congr 1;omega
theorem upF_snoc:∀(m:Nat) (a:Int),upF a (m+1)=upF a m++[a+m]
 |0,a=>by simp[upF]
 |m+1,a=>by
  show a::upF (a+1) (m+1)=a::(upF (a+1) m++_)
  rw[upF_snoc m (a+1)]
  congr 3;omega
theorem upF_range(m:Nat):∀a:Nat,upF (a:Int) m=(List.range' a m).map (fun j:Nat=>(j:Int)):=by
 induction m with
 |zero=>intro a;rfl
 |succ m ih=>
  intro a
  show(a:Int)::upF ((a:Int)+1) m=_
  have:=ih (a+1)
  rw[show((a:Int)+1)=((a+1:Nat):Int)by omega,this]
  simp[List.range'_succ]
def zJB(n k:Nat)(x:List Int)(m:Nat):Prop:=∀j,m<=j->j<k->x[j]? =some ((n:Int)-k+j)
theorem tail_le{n k m:Nat}{x:List Int}(hl:x.length=k)(hp:x.Pairwise (· < ·))(hb:∀y∈x,y<(n:Int))(hm:m<k)(ht:zJB n k x (m+1)):x[m]?.getD 0<=(n:Int)-k+m:=by
 have hml:m<x.length:=by omega
 rw[List.getElem?_eq_getElem hml]
 by_cases e:m+1=k
 ·have:=hb _ (List.getElem_mem hml);simp;omega
 ·have h1:=ht (m+1) (Nat.le_refl _) (by omega)
  have hml1:m+1<x.length:=by omega
  rw[List.getElem?_eq_getElem hml1]at h1
  have h2:=List.pairwise_iff_getElem.1 hp m (m+1) hml hml1 (by omega)
  have h3:=Option.some.inj h1
  simp;omega
theorem tail_step{n k m:Nat}{x:List Int}(hl:x.length=k)(hm:m<k)(ht:zJB n k x (m+1))(he:x[m]?.getD 0=(n:Int)-k+m):zJB n k x m:=by
 intro j h1 h2
 by_cases e:j=m
 ·subst e
  rw[List.getElem?_eq_getElem (by omega)]at he⊢
  rw[<- he];rfl
 ·exact ht j (by omega) h2
theorem tail_drop{n k m:Nat}{x:List Int}(hl:x.length=k)(hk:k<=n)(hm:m<=k)(ht:zJB n k x m):x.drop m=upF ((n:Int)-(k-m:Nat)) (k-m):=by
 apply List.ext_getElem?
 intro j
 rw[List.getElem?_drop]
 rcases Nat.lt_or_ge j (k-m)with h|h
 ·rw[ht (m+j) (by omega) (by omega),upF_get _ _ _ h];congr 1;omega
 ·rw[List.getElem?_eq_none (by omega),List.getElem?_eq_none (by rw[zFC];omega)]
theorem next_none{n k:Nat}{x:List Int}(hl:x.length=k)(hk:k<=n)(ht:zJB n k x 0):zFF n x=none:=by
 have:=tail_drop hl hk (Nat.zero_le _) ht
 rw[List.drop_zero,Nat.sub_zero]at this
 rw[this]
 exact zKK k _ (by omega)
def zFW(x:List Int)(m j:Nat):List Int:=x.take m++upF (x[m]?.getD 0+1) (j-m)++x.drop j
theorem fillS_len{x:List Int}{m j:Nat}(h1:m<=j)(h2:j<=x.length):(zFW x m j).length=x.length:=by
 unfold zFW;simp[zFC];omega
theorem fillS_get{x:List Int}{m j:Nat}(h1:m<j)(h2:j<=x.length):(zFW x m j)[j-1]?.getD 0=x[m]?.getD 0+(j-m:Nat):=by
 unfold zFW
 rw[List.getElem?_append_left (by simp[zFC];omega),List.getElem?_append_right (by simp;omega)]
 simp only[List.length_take]
 rw[show j-1-min m x.length=j-m-1 by omega,upF_get _ _ _ (by omega)]
 simp;omega
theorem fillS_set{x:List Int}{m j:Nat}(h1:m<=j)(h2:j<x.length):(zFW x m j).set j (x[m]?.getD 0+(j+1-m:Nat))=zFW x m (j+1):=by
 unfold zFW
 have hl:(x.take m++upF (x[m]?.getD 0+1) (j-m)).length=j:=by simp[zFC];omega
 rw[List.set_append_right _ _ (by omega),hl,Nat.sub_self,List.drop_eq_getElem_cons h2,List.set_cons_zero,show j+1-m=(j-m)+1 by omega,upF_snoc]
 simp
 omega
theorem fillS_start{x:List Int}{m:Nat}(hm:m<x.length):x.set m (x[m]?.getD 0+1)=zFW x m (m+1):=by
 have:=fillS_set (x:=x) (m:=m) (j:=m) (Nat.le_refl _) hm
 rw[show m+1-m=1 by omega]at this
 unfold zFW at this⊢
 rw[<- this]
 simp[upF]
theorem fillS_done{n k m:Nat}{x:List Int}(hl:x.length=k)(hk:k<=n)(hm:m<k)(ht:zJB n k x (m+1))(hlt:x[m]?.getD 0<(n:Int)-k+m):zFF n x=some (zFW x m k):=by
 have h1:=tail_drop hl hk (by omega) ht
 have hml:m<x.length:=by omega
 have hx:x=x.take m++x[m]::upF ((n:Int)-(k-(m+1):Nat)) (k-(m+1)):=by
  rw[<- h1,<- List.drop_eq_getElem_cons hml,List.take_append_drop]
 have hd:x[m]?.getD 0=x[m]:=by rw[List.getElem?_eq_getElem hml];rfl
 rw[hd]at hlt
 have h2:=nextS_at (n:=(n:Int)) (m:=k-(m+1)) (d:=x[m]) (by omega) (x.take m)
 rw[<- hx]at h2
 rw[h2]
 unfold zFW
 rw[hd,List.drop_eq_nil_of_le (by omega),List.append_nil,show k-(m+1)+1=k-m by omega]
theorem zGZ{α:Type}{l:List α}{i:Nat}{x:α}(h:l[i]? =some x):l.take i++[x]=l.take (i+1):=by
 obtain⟨hi,rfl⟩:=List.getElem?_eq_some_iff.1 h
 rw[List.take_succ_eq_append_getElem hi]
theorem take_all_at{α:Type}{l:List α}{i:Nat}{x:α}(h:l[i]? =some x)(hn:l[i+1]? =none):l.take (i+1)=l:=by
 exact List.take_of_length_le (List.getElem?_eq_none_iff.1 hn)
end
section
open Go.RowKit
attribute [local go_sem] Oper.semAt_some
theorem allI_upF(n:Nat):allI n=upF 0 n:=by
 have:=upF_range n 0
 rw[show((0:Nat):Int)=0 from rfl]at this
 rw[this]
 unfold allI
 rw[List.range_eq_range']
theorem iter_sets(w0:World)(n k kb nb:Nat)(hn:n<=1000)(hk:k<=1000)(hk1:1<=k)(hkb:kb<w0.heap.size)(hnb:nb<w0.heap.size)(hf0:w0.cell? ⟨kb,0,none⟩=some (.int .i64 k))(hf1:w0.cell? ⟨nb,0,none⟩=some (.int .i64 n)):
 IterInts Tryz.prog 3 222 #[.pointer (some ⟨kb,0,none⟩),.pointer (some ⟨nb,0,none⟩)] (comb n k 0) (fun q=>q=kb∨q=nb) w0:=by
 obtain⟨xs,hxs⟩:=exq (comb n k 0)
 have hfacts:∀x∈xs,x.length=k∧x.Pairwise (· < ·)∧(∀y∈x,y<(n:Int))∧∀j:Nat,(0:Int)<=x[j]?.getD 0:=fun x hx=>by
  rw[hxs]at hx
  obtain⟨h1,h2⟩:=zFZ n k 0 x hx
  exact⟨zCK n k 0 x hx,h1,fun y hy=>by have:=(h2 y hy).2;omega,fun j=>by
   rcases Nat.lt_or_ge j x.length with h|h
   ·rw[List.getElem?_eq_getElem h];have:=(h2 _ (List.getElem_mem h)).1;simp;omega
   ·rw[List.getElem?_eq_none h];simp⟩
 have hchn:Chn n none xs:=by rw[hxs];have:=zKS n k 0;rwa [Int.zero_add]at this
 have hhead:k<=n->xs[0]? =some (upF 0 k):=fun hkn=>by
  rw[hxs]
  obtain⟨t,ht⟩:=zIY n k 0 hkn
  rw[ht];rfl
 have hnil:¬k<=n->xs=[]:=fun h=>by rw[hxs];exact zFY n k 0 (by omega)
 rw[<- hxs]
 have HF:=hid hfacts
 have HC:=hid hchn
 have HH:=hid hhead
 have HNL:=hid hnil
 clear hfacts hchn hhead hnil hxs
 intro l J Jx W hb hJ hY h0
 have hg0:W.cell? ⟨kb,0,none⟩=some (.int .i64 k):=(hb.cell (p:=⟨kb,0,none⟩) hkb).trans hf0
 have hg1:W.cell? ⟨nb,0,none⟩=some (.int .i64 n):=(hb.cell (p:=⟨nb,0,none⟩) hnb).trans hf1
 have hkW:kb<W.heap.size:=Nat.lt_of_lt_of_le hkb hb.size
 have hnW:nb<W.heap.size:=Nat.lt_of_lt_of_le hnb hb.size
 have HJ:=hid hJ
 have HY:=hid hY
 have H0:=hid h0
 have HALL:=hid (all_c W k hk)
 clear hJ hY h0 hf0 hf1 hb
 refine callsIn_of_wp Tryz.func222 rfl trivial ?_ rfl
 simp only[Tryz.ntmps222,List.size_toArray,List.length_cons,List.length_nil,Nat.reduceAdd,Nat.reduceSub,Array.replicate_succ,Array.replicate_zero,List.push_toArray,List.append_toArray,List.nil_append,List.cons_append]
 gi_wp2_with (refine⟨trivial,rfl,?_⟩;gi_at_call 194;refine(callsIn_wide.2 HALL.out).mono ?_;rintro e w1 ⟨v,rfl,ho1,hb1⟩;refine Stop.of ?_)
 refine Stop.go ?_
 obtain⟨it,cap,rfl,hit,hr1⟩:=zIC ho1 (allI_len k) hk1
 rw[allI_upF]at hr1
 have hJ1:J it [] w1:=HJ.out it _ _ _ hit (H0.out it hit) (Keep.of_below hb1)
 have hkb1:=hb1.block kb hkW
 have hnb1:=hb1.block nb hnW
 have hs1:=hb1.size
 clear ho1 HALL
 by_cases hkn:k<=n
 ·have hhead:=HH.out hkn
  have hit1:=hr1.lt
  have HIT:=hid hit
  clear hit
  gi_wp2
  gi_loopg [] xs.length (fun(g:Nat) wr=>∃(i:Nat) (x:List Int),g=xs.length-i∧xs[i]? =some x∧J it (xs.take i) wr∧zBE wr it x∧wr.heap[kb]? =W.heap[kb]? ∧wr.heap[nb]? =W.heap[nb]? ∧W.heap.size<=wr.heap.size)
  case atStart=>exact⟨0,upF 0 k,by omega,hhead,by rw[List.take_zero];exact hJ1,hr1,hkb1,hnb1,hs1⟩
  case round=>
   obtain⟨i,x,rfl,hx,hJk,hrk,hfk,hfn,hsz⟩:=hrel
   have hxm:x∈xs:=List.mem_of_getElem? hx
   obtain⟨hxl,hxp,hxb,hxn⟩:=HF.out x hxm
   have hil:i<xs.length:=(List.getElem?_eq_some_iff.1 hx).1
   obtain⟨sp,hrow⟩:=hrk
   have hyk:=HY.out it (xs.take i) x cap sp wr (by rw[zGZ hx];exact List.take_prefix _ _) HIT.out (Array.getElem?_eq_some_iff.1 hrow).1 hJk hrow
   rw[hxl,zGZ hx]at hyk
   have hw0:wr.cell? ⟨kb,0,none⟩=some (.int .i64 k):=(World.cell?_of_block (a:=⟨kb,0,none⟩) hfk).trans hg0
   have hw1:wr.cell? ⟨nb,0,none⟩=some (.int .i64 n):=(World.cell?_of_block (a:=⟨nb,0,none⟩) hfn).trans hg1
   have hkn':(k:Int)<=(n:Int):=by omega
   have HRK:=hid (show zBE wr it x from⟨sp,hrow⟩)
   have HFK:=hid hfk
   have HFN:=hid hfn
   have HX:=hid hx
   have HXL:=hid hxl
   have HXP:=hid hxp
   have HXB:=hid hxb
   have HXN:=hid hxn
   clear hrow hJk hfk hfn hx hxm hxl hxp hxb hxn hhead hJ1 hr1 hkb1 hnb1
   obtain⟨fn,tmps,assign,body,hy,hR⟩:=hyk
   gi_wp2
   refine⟨rfl,hR.mono ?_⟩
   clear hR hy
   rintro e W3 (⟨rfl,hJ3,hs3,hk3⟩|⟨rfl,hJx⟩)
   ·have hr3:zBE W3 it x:=HRK.out.keep (hk3 it (Or.inr rfl))
    have hfk3:W3.heap[kb]? =W.heap[kb]? :=(hk3 kb (Or.inl (Or.inl rfl))).trans HFK.out
    have hfn3:W3.heap[nb]? =W.heap[nb]? :=(hk3 nb (Or.inl (Or.inr rfl))).trans HFN.out
    have hg30:W3.cell? ⟨kb,0,none⟩=some (.int .i64 k):=(World.cell?_of_block (a:=⟨kb,0,none⟩) hfk3).trans hg0
    have hg31:W3.cell? ⟨nb,0,none⟩=some (.int .i64 n):=(World.cell?_of_block (a:=⟨nb,0,none⟩) hfn3).trans hg1
    have HR3:=hid hr3
    have HK3:=hid hfk3
    have HN3:=hid hfn3
    have HJ3:=hid hJ3
    clear hr3 hfk3 hfn3 hJ3 hk3 hw0 hw1 HRK HFK HFN
    gi_wp2
    gi_loopw [5] (fun i5 wi=>∃i0:Int,i5=.int .i64 i0∧ -1<=i0∧i0<k∧zJB n k x (i0+1).toNat∧Below W3.heap.size W3 wi) (fun i5 _=>(intOf i5+1).toNat)
    case atStart=>
     refine⟨k-1,by first|rfl| (congr 1),by omega,by omega,?_,Below.refl _ _⟩
     intro j h1 h2
     omega
    case round=>
     obtain⟨i0,rfl,hi1,hi2,hT,hbi⟩:=hrel
     have hgk:wr.cell? ⟨kb,0,none⟩=some (.int .i64 k):=(hbi.cell (p:=⟨kb,0,none⟩) (by show kb<_;omega)).trans hg30
     have hgn:wr.cell? ⟨nb,0,none⟩=some (.int .i64 n):=(hbi.cell (p:=⟨nb,0,none⟩) (by show nb<_;omega)).trans hg31
     have hri:=HR3.out.keep (hbi.block it HR3.out.lt)
     have HBI:=hid hbi
     clear hbi
     by_cases h0:0<=i0
     ·obtain⟨m,rfl⟩:=Int.eq_ofNat_of_zero_le h0
      have e1:((m:Int)+1).toNat=m+1:=by omega
      rw[e1]at hT
      have hmk:m<k:=by omega
      have hle:=tail_le HXL.out HXP.out HXB.out hmk hT
      have hc:wr.cell? ⟨it,m,none⟩=some (.int .i64 (x[m]?.getD 0)):=hri.cell (by rw[HXL.out];exact hmk)
      have hw1:wrap64 ((n:Int)-k)=(n:Int)-k:=by unfold wrap64;omega
      have hw2:wrap64 ((n:Int)-k+m)=(n:Int)-k+m:=by unfold wrap64;omega
      have hz:=hri.frozen m
      have hlt3:=hri.lt
      have HRI:=hid hri
      clear hri
      have hm0:(0:Int)<=(m:Int):=by omega
      have hm1:(m:Int)<(k:Int):=by omega
      have HT:=hid hT
      by_cases he:x[m]?.getD 0=(n:Int)-k+m
      ·have hst:=tail_step HXL.out hmk hT he
       have hbe:(x[m]?.getD 0==(n:Int)-k+m)=true:=by simpa using he
       have HST:=hid hst
       clear he hst hT hle
       gi_wp2
       gi_quiet (fail)
       gi_wp2
       refine⟨⟨(m:Int)-1,rfl,by omega,by omega,?_,zAV HBI.out nq⟩,?_⟩
       ·rw[show((m:Int)-1+1).toNat=m by omega];exact HST.out
       ·simp[intOf]
      ·have hbe:(x[m]?.getD 0==(n:Int)-k+m)=false:=by simpa using he
       have hlt:x[m]?.getD 0<(n:Int)-k+m:=by omega
       have HLT:=hid hlt
       clear he hT hle hlt
       gi_wp2
       gi_quiet (fail)
       have HRQ:=hid (show zBE (wr.drewN nq) it x from HRI.out)
       have HBQ:=hid (zAV HBI.out nq)
       have hgk2:(wr.drewN nq).cell? ⟨kb,0,none⟩=some (.int .i64 k):=hgk
       have hc2:(wr.drewN nq).cell? ⟨it,m,none⟩=some (.int .i64 (x[m]?.getD 0)):=hc
       have hz2:(wr.drewN nq).frozen? ⟨it,m,none⟩=false:=hz
       have hlt2:it<(wr.drewN nq).heap.size:=hlt3
       clear HRI HBI hgk hgn hc hz hlt3
       generalize wr.drewN nq=w4 at HRQ HBQ hgk2 hc2 hz2 hlt2⊢
       have hv:wrap64 (x[m]?.getD 0+1)=x[m]?.getD 0+1:=by
        have h1:=HLT.out
        have h2:(0:Int)<=x[m]?.getD 0:=HXN.out m
        unfold wrap64;omega
       have HV:=hid hv
       clear hv
       have HKS:=hid (HRQ.out.set m (by rw[HXL.out];exact hmk) (x[m]?.getD 0+1))
       rw[fillS_start (by rw[HXL.out];exact hmk)]at HKS
       have HW9:=hid (show wrap64 ((m:Int)+1)=((m+1:Nat):Int)by unfold wrap64;omega)
       gi_wp2
       gi_loopw [6] (fun v wj=>∃j:Nat,m+1<=j∧j<=k∧v=.int .i64 j∧zBE wj it (zFW x m j)∧Keep (fun q=>q≠it) w4 wj) (fun v _=>k-(intOf v).toNat)
       case atStart=>exact⟨m+1,Nat.le_refl _,by omega,by rw[show((m:Int)+1)=((m+1:Nat):Int)by omega],by have h:=HKS.out;with_reducible (first| (rw[HV.out];exact h)|exact h),Keep.set _ _ _ _⟩
       case round=>
        obtain⟨j,hj1,hj2,rfl,hrj,hkj⟩:=hrel
        have hgj:wr.cell? ⟨kb,0,none⟩=some (.int .i64 k):=hkj.cell hgk2 (by have:=HIT.out;omega)
        by_cases hjk:j<k
        ·have hlen:=fillS_len (m:=m) (j:=j) (x:=x) (by omega) (show j<=x.length by rw[HXL.out];omega)
         have hget:=fillS_get (x:=x) (show m<j by omega) (by rw[HXL.out];omega)
         have hset:=fillS_set (x:=x) (show m<=j by omega) (by rw[HXL.out];omega)
         have hcj:=hrj.cell (j:=j-1) (by rw[hlen,HXL.out];omega)
         rw[hget]at hcj
         have hzj:=hrj.frozen j
         have hcj2:=hrj.cell (j:=j) (by rw[hlen,HXL.out];exact hjk)
         obtain⟨u,hu⟩:=exq ((zFW x m j)[j]?.getD 0)
         rw[<- hu]at hcj2
         have hltj:=hrj.lt
         have hwj:wrap64 ((j:Int)-1)=((j-1:Nat):Int):=by unfold wrap64;omega
         have hwv:wrap64 (x[m]?.getD 0+((j-m:Nat):Int)+1)=x[m]?.getD 0+((j+1-m:Nat):Int):=by
          have h1:=HLT.out
          have h2:(0:Int)<=x[m]?.getD 0:=HXN.out m
          unfold wrap64;omega
         have HSJ:=hid (hrj.set j (by rw[hlen,HXL.out];exact hjk) (x[m]?.getD 0+((j+1-m:Nat):Int)))
         rw[hset]at HSJ
         have i1:(0:Int)<=((j-1:Nat):Int):=by omega
         have i2:((j-1:Nat):Int)<(k:Int):=by omega
         have i3:(0:Int)<=(j:Int):=by omega
         have i4:(j:Int)<(k:Int):=by omega
         have HKJ:=hid hkj
         obtain⟨y,hy⟩:=exq (x[m]?.getD 0+((j-m:Nat):Int))
         obtain⟨z,hz⟩:=exq (x[m]?.getD 0+((j+1-m:Nat):Int))
         rw[<- hy,<- hz]at hwv
         rw[<- hy]at hcj
         rw[<- hz]at HSJ
         obtain⟨p,hp⟩:=exq (j-1)
         rw[<- hp]at hcj hwj i1 i2
         have hjp:(j:Int)-1=(p:Int):=by omega
         clear hrj hkj hlen hget hset hy hz hp hu
         gi_wp2
         refine⟨⟨j+1,by omega,by omega,?_,HSJ.out,HKJ.out.trans (Keep.set _ _ _ _)⟩,by simp[intOf];omega⟩
         rw[show((j:Int)+1)=((j+1:Nat):Int)by omega]
        ·obtain rfl:j=k:=by omega
         have hnx:=HC.out.at HX.out
         rw[fillS_done HXL.out hkn hmk HT.out HLT.out]at hnx
         have hi1:i+1<xs.length:=(List.getElem?_eq_some_iff.1 hnx).1
         have HNX:=hid hnx
         have HKJ:=hid hkj
         have HRJ:=hid hrj
         clear hnx hkj hrj
         gi_wp2
         gi_roundg (xs.length-(i+1))
         case measure=>omega
         case rel=>
          refine⟨i+1,zFW x m j,rfl,HNX.out,?_,HRJ.out,?_,?_,?_⟩
          ·exact HJ.out it _ W3 _ HIT.out HJ3.out ((Keep.of_below HBQ.out).trans HKJ.out)
          ·exact(HKJ.out.block kb (by have:=HBQ.out.size;omega) (by have:=HIT.out;omega)).trans ((HBQ.out.block kb (by omega)).trans HK3.out)
          ·exact(HKJ.out.block nb (by have:=HBQ.out.size;omega) (by have:=HIT.out;omega)).trans ((HBQ.out.block nb (by omega)).trans HN3.out)
          ·have:=HKJ.out.size;have:=HBQ.out.size;omega
     ·obtain rfl:i0= -1:=by omega
      have hn0:decide ((0:Int)<= -1)=false:=by decide
      have HT:=hid hT
      clear hT
      gi_wp2
      gi_quiet (fail)
      gi_wp2
      refine bodyPost_ret (results_none rfl _ _ _) rfl ?_
      refine⟨⟨_,rfl⟩,.inl ⟨it,HIT.out,?_⟩⟩
      have hnx:=HC.out.at HX.out
      rw[next_none HXL.out hkn (by simpa using HT.out)]at hnx
      rw[<- take_all_at HX.out hnx]
      exact HJ.out it _ W3 _ HIT.out HJ3.out (Keep.of_below (zAV HBI.out _))
   ·gi_wp2
    refine bodyPost_ret (results_none rfl _ _ _) rfl ?_
    exact⟨⟨_,rfl⟩,.inr ⟨_,List.take_prefix _ _,hJx⟩⟩
 ·have HNIL:=hid (HNL.out hkn)
  have hkb':w1.cell? ⟨kb,0,none⟩=some (.int .i64 k):=(World.cell?_of_block (a:=⟨kb,0,none⟩) hkb1).trans hg0
  have hnb':w1.cell? ⟨nb,0,none⟩=some (.int .i64 n):=(World.cell?_of_block (a:=⟨nb,0,none⟩) hnb1).trans hg1
  have hd:decide ((k:Int)<=(n:Int))=false:=by simp;omega
  have HJ1:=hid hJ1
  have HIT:=hid hit
  clear hJ1 hit hr1
  gi_wp2
  gi_loopw [] (fun wr=>∃q,wr=w1.drewN q) (fun _=>0)
  case atStart=>exact⟨0,rfl⟩
  case round=>
   obtain⟨q,rfl⟩:=hrel
   have hkb2:(w1.drewN q).cell? ⟨kb,0,none⟩=some (.int .i64 k):=hkb'
   have hnb2:(w1.drewN q).cell? ⟨nb,0,none⟩=some (.int .i64 n):=hnb'
   gi_wp2
   go_end0
   refine⟨⟨_,rfl⟩,.inl ⟨it,HIT.out,?_⟩⟩
   rw[HNIL.out]
   exact HJ.out it _ _ _ HIT.out HJ1.out ((Keep.refl _ _).drewN q)
end
section
open Go.RowKit
theorem sets_c(w:World)(n k:Int):
 Calls Tryz.prog 178 #[.int .i64 n,.int .i64 k] w fun e w'=>e=.returned (.func (.func 222) #[] #[.pointer (some ⟨w.heap.size+1,0,none⟩),.pointer (some ⟨w.heap.size,0,none⟩)])∧
  w'=(w.alloc (.cells #[.int .i64 n] 3)).alloc (.cells #[.int .i64 k] 3):=by
 have hmf:∀(fn:Fn) (first cap:Array Value) (w:World),(Instr.makeFunc fn first cap).run Tryz.prog w=.ok (.func fn first cap) w:=fun _ _ _ _=>rfl
 go_enter Tryz.func178,Tryz.ntmps178
 go_wp2
 go_ret
 exact⟨by simp,rfl⟩
end
section
open Go.RowKit
theorem r2within_c(n lo hi:Int)(w:World):Calls Tryz.prog 131 #[.int .i64 n,.int .i64 lo,.int .i64 hi] w fun e w'=>e=.returned (.bool (inB n lo hi))∧w=w':=by
 by_cases h1:lo<=n<;>by_cases h2:n<=hi
 all_goals
  go_enter Tryz.func131,Tryz.ntmps131
  go_wp2
  go_ret
  exact⟨zAR (by simp[inB,h1,h2]),rfl⟩
theorem zJJ(n lo hi:Int)(w:World):Calls Tryz.prog 174 #[.int .i64 n,.int .i64 lo,.int .i64 hi] w fun e w'=>e=.returned (.bool (inB n lo hi))∧w=w':=by
 by_cases h1:lo<=n<;>by_cases h2:n<=hi
 all_goals
  go_enter Tryz.func174,Tryz.ntmps174
  go_wp2
  go_ret
  exact⟨zAR (by simp[inB,h1,h2]),rfl⟩
theorem all_stop{α:Type}{p:α->Bool}{l:List α}{k:Nat}(hk:k<l.length)(h:p l[k]=false):l.all p=false:=by
 rw[List.all_eq_false];exact⟨l[k],List.getElem_mem hk,by simp[h]⟩
theorem all_done{α:Type}{p:α->Bool}{l:List α}(h:∀j (hj:j<l.length),p l[j]=true):l.all p=true:=by
 rw[List.all_eq_true]
 intro x hx
 obtain⟨i,hi,e⟩:=List.getElem_of_mem hx
 rw[<- e];exact h i hi
end
section
open Go.RowKit
theorem gcd_tmod(p q:Int):Int.gcd q (p.tmod q)=Int.gcd p q:=by
 unfold Int.gcd
 rw[Int.natAbs_tmod]
 rcases Nat.eq_zero_or_pos q.natAbs with h|h
 ·rw[h];simp
 ·exact gcd_mod _ _ h
theorem r3divisor_c(w:World)(a b:Int)(ha: -4611686018427387904<=a∧a<=4611686018427387904)(hb: -4611686018427387904<=b∧b<=4611686018427387904):
 Calls Tryz.prog 211 #[.int .i64 a,.int .i64 b] w fun e w'=>e=.returned (.int .i64 (Int.gcd a b:Nat))∧∃k,w'=w.drewN k:=by
 obtain⟨G,hG⟩:∃G:Nat,G=Int.gcd a b:=⟨_,rfl⟩
 rw[<- hG]
 have HG:=hid hG
 clear hG
 obtain⟨ha1,ha2⟩:=ha
 obtain⟨hb1,hb2⟩:=hb
 go_enter Tryz.func211,Tryz.ntmps211
 go_wp2
 go_loopw [0,1] (fun u v wr=>∃p q:Int,u=.int .i64 p∧v=.int .i64 q∧ -4611686018427387904<=p∧p<=4611686018427387904∧ -4611686018427387904<=q∧q<=4611686018427387904∧Int.gcd p q=G∧∃k,wr=w.drewN k) (fun _ v _=>(intOf v).natAbs)
 case atStart=>exact⟨a,b,rfl,rfl,ha1,ha2,hb1,hb2,HG.out.symm,0,rfl⟩
 case round=>
  obtain⟨p,q,rfl,rfl,hp1,hp2,hq1,hq2,hg,k,rfl⟩:=hrel
  have HGG:=hid hg
  clear hg
  by_cases h0:q=0
  ·subst h0
   have hn:IntKind.i64.wrap (-p)= -p:=IntWalk.i64_in _ (by omega)
   have HGP:=hid (show max p (-p)=((G:Nat):Int)by
    have:=HGG.out
    rw[Int.gcd_zero_right]at this
    omega)
   go_wp2
   all_goals
    go_ret
    exact⟨zCC (by have:=HGP.out;omega),_,rfl⟩
  ·have hne:(q !=0)=true:=by simpa using h0
   have hlt:(p.tmod q).natAbs<q.natAbs:=by rw[Int.natAbs_tmod];exact Nat.mod_lt _ (by omega)
   have hw:IntKind.i64.wrap (p.tmod q)=p.tmod q:=IntWalk.i64_in _ (by omega)
   have HGM:=hid ((gcd_tmod p q).trans HGG.out)
   have HLT:=hid hlt
   clear hlt
   go_wp2
   go_quiet (fail)
   go_wp2
   have h1:=HLT.out
   exact⟨⟨q,p.tmod q,rfl,rfl,hq1,hq2,by omega,by omega,HGM.out,_,drewN_add _ _ _⟩,by show(p.tmod q).natAbs<q.natAbs;exact h1⟩
end
section
open Go.RowKit
def HeadV(W:World)(xs:List Value)(L:List (List Int)):Prop:=
 xs.length=L.length∧∀j (hj:j<L.length),∃ra rn rc,xs[j]? =some (.slice ra rn rc)∧L[j].length=rn∧rn<=maxLen∧zAJ W ra L[j]
theorem HeadV.nil(W:World):HeadV W [] []:=⟨rfl,fun j hj=>by simp at hj⟩
theorem HeadV.below{W W':World}{xs:List Value}{L:List (List Int)}(h:HeadV W xs L)(hb:Below W.heap.size W W'):HeadV W' xs L:=
 ⟨h.1,fun j hj=>by obtain⟨ra,rn,rc,h1,h2,h3,h4⟩:=h.2 j hj;exact⟨ra,rn,rc,h1,h2,h3,h4.below hb⟩⟩
end
end Go.Proofs.YtlffndehhhpgjaaGreat
