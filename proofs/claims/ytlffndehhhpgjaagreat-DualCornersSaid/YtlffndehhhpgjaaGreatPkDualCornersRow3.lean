/- Walks and plain laws for DualCornersRow, part 3. -/
import Derived.Maps.RangeWalk
import Derived.Deep.CutRange
import Derived.Test.YtlffndehhhpgjaaGreatPkDualCornersRow2
namespace Go.Proofs.YtlffndehhhpgjaaGreat
set_option linter.unusedVariables false
set_option linter.unusedSimpArgs false
set_option maxRecDepth 100000
set_option maxHeartbeats 4000000
section
open Go.RowKit
theorem zEF:(Tryz.prog.info? 3).map (fun i=>(i.zero,i.size,i.bytes))=some (some (.int .i64 0),1,8):=by kernel_rfl
theorem zKD:(Tryz.prog.info? 24).map (fun i=>(i.zero,i.size,i.bytes))=some (some (.slice none 0 0),1,24):=by kernel_rfl
theorem zEE(x:Int):∀u∈[Value.int .i64 x],u.oneCell'=true:=by intro u hu;simp at hu;subst hu;rfl
def PredRok(P:Program)(g:Nat)(lb:Array Value)(w:World)(ok:List Int->Prop)(p:List Int->Bool):Prop:=
 ∀(l:List Int) (v:Value) (W:World),ok l->Below w.heap.size w W->SlV W v l->Calls P g (#[v]++lb) W fun e W'=>e=.returned (.bool (p l))∧Below W.heap.size W W'
theorem indexRok(w:World)(a:Option Addr)(n cap:Nat)(l:List (List Int))(hn:l.length=n)(hm:n<=maxLen)(H:zAN w a l)(g:Nat)(lb:Array Value)(ok:List Int->Prop)(p:List Int->Bool)
 (eg:∀args w,(callFunc g args).run Tryz.prog w=.ok (.enter g args) w)(hp:PredRok Tryz.prog g lb w ok p)(hok:∀x∈l,ok x):
 Calls Tryz.prog 228 #[.slice a n cap,.func (.func g) #[] lb] w fun e w'=>e=.returned (.int .i64 (idxP p l 0))∧Below w.heap.size w w':=by
 have HN:=hid hn
 have HH:=hid H
 have HP:=hid hp
 have HOK:=hid hok
 clear hn H hp hok
 unfold maxLen at hm
 go_enter Tryz.func228,Tryz.ntmps228
 go_wp2
 go_loopw [8] (fun i wr=>∃k:Nat,k<=n∧i=.int .i64 k∧Below w.heap.size w wr∧∀i y,i<k->l[i]? =some y->p y=false) (fun i _=>n-(intOf i).toNat)
 case atStart=>exact⟨0,Nat.zero_le _,rfl,Below.refl _ _,fun i y h=>by omega⟩
 case round=>
  obtain⟨k,hk,rfl,hb,hno⟩:=hrel
  have HNO:=hid hno
  clear hno
  by_cases hlt:k<n
  ·have hkl:k<l.length:=by rw[HN.out];exact hlt
   obtain⟨b,off,ra,rn,rc,rfl,hbs,h0,hrn,hrm,hri⟩:=(HH.out.below hb) k hkl
   have HV:=hid (show SlV wr (.slice ra rn rc) l[k]from⟨ra,rn,rc,rfl,hrn,hrm,hri⟩)
   clear hrn hri
   have HK:=hid (List.getElem?_eq_getElem hkl)
   have HO:=hid (HOK.out _ (List.getElem_mem hkl))
   cases hpx:p l[k]
   ·go_wp2_with (refine(HP.out _ _ _ HO.out hb HV.out).mono ?_;rintro e w1 ⟨rfl,hb1⟩)
    refine⟨⟨k+1,by omega,by go_num,zAA hb hb1,?_⟩,by simp[intOf];omega⟩
    intro i y hi hy
    by_cases e:i=k
    ·subst e;rw[HK.out]at hy;cases hy;exact hpx
    ·exact HNO.out i y (by omega) hy
   ·go_wp2_with (refine(HP.out _ _ _ HO.out hb HV.out).mono ?_;rintro e w1 ⟨rfl,hb1⟩)
    go_ret
    refine⟨zDB ?_,zAA hb hb1⟩
    rw[zKF p l 0 k _ HK.out hpx HNO.out];simp
  ·go_wp2
   go_ret
   refine⟨zDB ?_,hb⟩
   rw[zHI]
   intro x hx
   obtain⟨i,hi,e⟩:=List.getElem_of_mem hx
   exact HNO.out i x (by have:=HN.out;omega) (by rw[List.getElem?_eq_getElem hi,e])
theorem idxP_find{α:Type}(p:α->Bool):∀(l:List α) (k:Nat),idxP p l k=match l.findIdx? p with|some i=>((k+i:Nat):Int)|none=> -1
 | [],k=>rfl
 |x::l,k=>by
  unfold idxP
  rw[List.findIdx?_cons]
  by_cases h:p x=true
  ·rw[if_pos h,if_pos h];simp
  ·rw[if_neg h,if_neg h,idxP_find p l (k+1)]
   cases l.findIdx? p with
   |none=>rfl
   |some i=>simp only[Option.map_some];congr 1;omega
theorem reduce1(w:World)(b j:Nat)(hb:b<w.heap.size)(hc:w.cell? ⟨b,0,none⟩=some (.int .i64 j)):PredRok Tryz.prog 229 #[.pointer (some ⟨b,0,none⟩)] w (fun l=>j<l.length) (nz j):=by
 intro l v W hj hbw hv
 have hc':W.cell? ⟨b,0,none⟩=some (.int .i64 j):=(hbw.cell (p:=⟨b,0,none⟩) hb).trans hc
 obtain⟨ra,rn,rc,rfl,hrn,hrm,hri⟩:=hv
 obtain⟨b',off,rfl,hbs,hq⟩:=hri j hj
 have HNZ:=hid (show nz j l=decide (l[j]?.getD 0≠0)from rfl)
 obtain⟨x,hx⟩:=exq (l[j]?.getD 0)
 rw[<- hx]at hq HNZ
 have hjn:j<rn:=by omega
 unfold maxLen at hrm
 clear hx hri hrn hc hj
 by_cases h0:x=0
 all_goals
  have hd:(x !=0)=decide (x≠0):=by rw[Bool.eq_iff_iff];simp
  have HX:=hid h0
  first
   |rw[decide_eq_false (by simpa using h0)]at hd
   |rw[decide_eq_true h0]at hd
  clear h0
  go_enter Tryz.func229,Tryz.ntmps229
  go_wp2
  go_ret
  exact⟨zAT (by rw[HNZ.out];have:=HX.out;simp[this]),Below.refl _ _⟩
def zBU(L:List (List Int))(p:List Int)(k j i:Nat):List (List Int):=L.mapIdx (fun q row=>if q<i then zFF p k j q row else row)
theorem zNH(L:List (List Int))(p:List Int)(k j i:Nat):(zBU L p k j i).length=L.length:=by simp[zBU]
theorem clearTo_zero(L:List (List Int))(p:List Int)(k j:Nat):zBU L p k j 0=L:=by
 refine List.ext_getElem (by simp[zBU]) fun i h1 h2=>?_
 simp[zBU]
theorem clearTo_all(L:List (List Int))(p:List Int)(k j:Nat):zBU L p k j L.length=L.mapIdx (zFF p k j):=by
 refine List.ext_getElem (by simp[zBU]) fun i h1 h2=>?_
 have:i<L.length:=by simpa using h2
 simp[zBU,this]
theorem zEZ{L:List (List Int)}{p:List Int}{k j i q:Nat}(hq:q<L.length):(zBU L p k j i)[q]'(by rw[zNH];exact hq)=if q<i then zFF p k j q L[q]else L[q]:=by simp[zBU]
theorem clearTo_set{L:List (List Int)}{p:List Int}{k j i:Nat}(hi:i<L.length):(zBU L p k j i).set i (zFF p k j i L[i])=zBU L p k j (i+1):=by
 refine List.ext_getElem (by simp[zBU]) fun q h1 h2=>?_
 have hq:q<L.length:=by simpa[zBU]using h2
 rw[List.getElem_set]
 by_cases e:i=q
 ·subst e;rw[if_pos rfl,zEZ hi,if_pos (by omega)]
 ·rw[if_neg e,zEZ hq,zEZ hq]
  by_cases c:q<i
  ·rw[if_pos c,if_pos (by omega)]
  ·rw[if_neg c,if_neg (by omega)]
def Out(base top:Nat)(k:Nat):Prop:=k<base∨top<=k
theorem pRed_K(L:List (List Int)):∀t,(pRed L t).2.length<=L.length
 |0=>Nat.zero_le _
 |t+1=>by
  rw[zIS]
  have h:=pRed_K L t
  have hl:=zFC L t
  unfold zMN
  split
  ·exact h
  ·rename_i a ha
   obtain⟨h1,_⟩:=zGV ha
   rw[List.length_drop]at h1
   simp only[List.length_append,List.length_singleton]
   omega
theorem rows_drop{w:World}{g0:Nat}{L:List (List Int)}(h:zAN w (some ⟨g0,0,none⟩) L)(k:Nat):zAN w (some ⟨g0,k,none⟩) (L.drop k):=by
 intro j hj
 have hjk:k+j<L.length:=by rw[List.length_drop]at hj;omega
 obtain⟨b,off,ra,n,cap,e,hlt,h0,hn,hm,hi⟩:=h (k+j) hjk
 cases e
 refine⟨g0,k,ra,n,cap,rfl,hlt,by simpa using h0,?_,hm,?_⟩<;>simp only[List.getElem_drop]<;>assumption
theorem zOA{R:List (List Int)}{J:List Nat}{j:Nat}(h:(R.drop J.length).findIdx? (nz j)=none):zMN (R,J) j=(R,J):=by
 unfold zMN;simp only[h]
theorem pStep_some{R:List (List Int)}{J:List Nat}{j a:Nat}(h:(R.drop J.length).findIdx? (nz j)=some a):zMN (R,J) j=(zCX (zGJ R J.length (J.length+a)) J.length j,J++[j]):=by
 unfold zMN;simp only[h]
theorem reduce_c(w:World)(base:Nat)(v0:Value)(L:List (List Int))(W:Nat)(hO:OwnT w base w.heap.size v0 L)(hbase:base<=w.heap.size)(hw:∀r∈L,r.length=W)(hW:W<=1000)(hN:L.length<=6)(hN1:0<L.length)(n:Nat)(hn:n<=W)
 (hB:∀t,t<=n->∀r∈(pRed L t).1,r.length=W∧BndL 1073741824 r):
 Calls Tryz.prog 195 #[v0,.int .i64 n] w fun e w'=>∃v,e=.returned v∧w'.ownsRow w.heap.size 3 1 v (pRed L n).2.length ((pRed L n).2.map (fun j:Nat=>Value.int .i64 j))∧OwnT w' base w.heap.size v0 (pRed L n).1∧Below base w w':=by
 have HO:=hid hO
 have HB:=hid hB
 have HL:=hid (fun t=>zFC L t)
 have HBA:=hid hbase
 have HSU:=hid (fun t=>zIS L t)
 obtain⟨g0,cap,_,_,hv,_⟩:=hO.at 0 hN1
 subst hv
 obtain⟨N,hNe⟩:=exq (L.length)
 rw[<- hNe]at HO HL hN hN1⊢
 have HN:=hid hNe
 have HW:=hid hw
 clear hO hB hbase hNe hw
 go_enter Tryz.func195,Tryz.ntmps195
 go_wp2
 go_loopw [5,13] (fun v i wr=>∃j:Nat,j<=n∧i=.int .i64 j∧wr.ownsRow w.heap.size 3 1 v (pRed L j).2.length ((pRed L j).2.map (fun j:Nat=>Value.int .i64 j))∧OwnT wr base w.heap.size (.slice (some ⟨g0,0,none⟩) N cap) (pRed L j).1∧Below base w wr) (fun _ i _=>n-(intOf i).toNat)
 case atStart=>exact⟨0,Nat.zero_le _,rfl,World.ownsRow_nil _ _ _ _,HO.out,Below.refl _ _⟩
 case round=>
  obtain⟨j,hj,rfl,hown,hT,hbk⟩:=hrel
  obtain⟨wo,hwo⟩:=exq (wr)
  subst hwo
  by_cases hlt:j<n
  ·have hlt':(j:Int)<(n:Int):=by omega
   have hrl:=HL.out j
   have hKN:=pRed_K L j
   have hsu:=HSU.out j
   have hbnd:=HB.out j (by omega)
   have hbnd2:=HB.out (j+1) (by omega)
   rw[hsu]at hbnd2
   have HSJ:=hid hsu
   obtain⟨R,hR⟩:=exq ((pRed L j).1)
   obtain⟨J,hJ⟩:=exq ((pRed L j).2)
   have hRJ:pRed L j=(R,J):=by rw[hR,hJ]
   rw[hRJ]at hbnd2
   rw[hRJ]at HSJ
   rw[<- hR]at hrl hT hbnd
   rw[<- hJ]at hown hKN
   rw[<- HN.out]at hKN
   obtain⟨K,hK⟩:=exq (J.length)
   rw[<- hK]at hown hKN
   have HK:=hid hK
   have HRL:=hid hrl
   have HBD:=hid hbnd
   have HBD2:=hid hbnd2
   have HT:=hid hT
   have HBK:=hid hbk
   have hsz:=hbk.size
   obtain⟨vp,vcap,rfl⟩:=zAD hown
   have HOW:=hid hown
   have hrows:=hT.rowsAt hrl (fun r hr=>by rw[(hbnd r hr).1];unfold maxLen;omega)
   obtain⟨_,_,_,hNc,hcm,hfz0,_⟩:=hT.info hrl
   unfold maxLen at hcm
   have HFZ:=hid hfz0
   have hbx:Below wo.heap.size wo (wo.alloc (.cells #[.int .i64 j] 3)):=(Below.refl _ _).alloc (Nat.le_refl _) _
   have HPR:=hid (reduce1 (wo.alloc (.cells #[.int .i64 j] 3)) wo.heap.size j (by simp) (by rw[World.cell?_alloc_at _ _ _ _ rfl];rfl))
   have HRW:=hid (rows_drop (hrows.below hbx) K)
   have HBX:=hid hbx
   clear hsu hR hJ hRJ hK hrl hbnd hbnd2 hown hT hbk hrows hbx
   by_cases hKlt:K<N
   ·have hk1:(0:Int)<=(K:Int):=by omega
    have hk2:(K:Int)<=(N:Int):=by omega
    have hcK:¬(cap=K):=by omega
    have HI:=hid (indexRok (wo.alloc (.cells #[.int .i64 j] 3)) (some ⟨g0,K,none⟩) (N-K) (cap-K) (R.drop K) (by rw[List.length_drop,HRL.out]) (by unfold maxLen;omega) HRW.out 229 #[.pointer (some ⟨wo.heap.size,0,none⟩)] _ _ (enters_of Tryz.func229 (by kernel_rfl) rfl) HPR.out (fun x hx=>by have:=(HBD.out x (List.mem_of_mem_drop hx)).1;omega))
    rw[idxP_find]at HI
    cases hf:(R.drop K).findIdx? (nz j)with
    |none=>
     rw[hf]at HI
     simp only[]at HI
     have HE:=hid (show pRed L (j+1)=(R,J)by rw[HSJ.out];exact zOA (by rw[<- HK.out];exact hf))
     clear hf HPR HRW hfz0
     go_wp2_with (go_at_call 228;refine HI.out.mono ?_;rintro e w1 ⟨rfl,hb1⟩)
     have hbw:=zAA HBX.out hb1
     refine⟨⟨j+1,by omega,by go_num,?_,?_,?_⟩,by simp[intOf];omega⟩
     ·rw[HE.out]
      simp only[]
      rw[<- HK.out]
      exact zBI HOW.out hbw
     ·rw[HE.out]
      exact HT.out.keep fun k _ _ hk=>hbw.block k hk
     ·exact HBK.out.trans (hbw.mono HBK.out.size |>.mono (by have:=HBA.out;omega))
    |some a=>
     rw[hf]at HI
     simp only[Nat.zero_add]at HI
     have HE:=hid (show pRed L (j+1)=(zCX (zGJ R K (K+a)) K j,J++[j])by rw[HSJ.out,pStep_some (by rw[<- HK.out];exact hf),<- HK.out])
     obtain⟨ha1,ha2⟩:=zGV hf
     rw[List.length_drop,HRL.out]at ha1
     rw[List.getElem_drop]at ha2
     have HA2:=hid ha2
     clear hf ha2 HPR HRW hfz0
     go_wp2_with (go_at_call 228;refine HI.out.mono ?_;rintro e w1 ⟨rfl,hb1⟩;refine Stop.of ?_)
     refine Stop.go ?_
     have hbw:=zAA HBX.out hb1
     have hbw':=hbw
     have hT1:OwnT w1 base w.heap.size (.slice (some ⟨g0,0,none⟩) N cap) R:=HT.out.keep fun k _ _ hk=>hbw.block k hk
     have hia:K+a<R.length:=by rw[HRL.out];omega
     have hiK:K<R.length:=by rw[HRL.out];omega
     obtain⟨gK,cK,c1,_,_,_,hsK,_⟩:=hT1.row HRL.out K hiK
     obtain⟨gA,cA,c2,_,_,_,hsA,_⟩:=hT1.row HRL.out (K+a) hia
     obtain⟨hdK,hhK⟩:=exq (Value.slice (some ⟨gK,0,none⟩) R[K].length cK)
     obtain⟨hdA,hhA⟩:=exq (Value.slice (some ⟨gA,0,none⟩) R[K+a].length cA)
     rw[<- hhK]at c1
     rw[<- hhA]at c2
     obtain⟨_,_,hg0,_,_,hz0,_⟩:=hT1.info HRL.out
     have HS:=hid (fun(X:World) (h:X.heap=w1.heap)=>show X.cell? ⟨g0,K,none⟩=some hdK∧X.cell? ⟨g0,K+a,none⟩=some hdA from⟨by unfold World.cell? at c1⊢;rw[h];exact c1,by unfold World.cell? at c2⊢;rw[h];exact c2⟩)
     have HZ:=hid hz0
     have hzK:=hz0 K
     have hzA:=hz0 (K+a)
     have HT1:=hid hT1
     have HHK:=hid hhK
     have HHA:=hid hhA
     have HC1:=hid c1
     have HC2:=hid c2
     have ha3:(0:Int)<=(K:Int)+(a:Int):=by omega
     have ha4:(K:Int)+(a:Int)<(N:Int):=by omega
     have ha5:(K:Int)<(N:Int):=by omega
     have HW:=hid (show IntKind.i64.wrap ((K:Int)+a)=(K:Int)+a from IntWalk.i64_in _ (by omega))
     clear hT1 hhK hhA hsK hsA hz0
     go_wp2
     have hwe:=HW.out
     refine zAF (fun j X=>w2 11 15 j=true->X.cell? ⟨g0,K,none⟩=some hdK∧X.cell? ⟨g0,K+a,none⟩=some hdA) (by kernel_rfl) ?_
     refine AnyT.takeP (i:=0) (v:=.slice (some ⟨g0,0,none⟩) N cap) rfl rfl rfl (by kernel_rfl) (by kernel_rfl) (by kernel_rfl) (by first|exact(fun _ _ _ h=>h)|exact(fun _ _ _ h=>absurd h.1 (by simp))) (by rfl) (by intro w';go_simp) ?_;go_frame
     refine AnyT.takeP (i:=1) (v:=.int .i64 K) rfl rfl rfl (by kernel_rfl) (by kernel_rfl) (by kernel_rfl) (by first|exact(fun _ _ _ h=>h)|exact(fun _ _ _ h=>absurd h.1 (by simp))) (by rfl) (by intro w';go_simp) ?_;go_frame
     refine AnyT.takeP (i:=2) (v:=.slice (some ⟨g0,0,none⟩) N cap) rfl rfl rfl (by kernel_rfl) (by kernel_rfl) (by kernel_rfl) (by first|exact(fun _ _ _ h=>h)|exact(fun _ _ _ h=>absurd h.1 (by simp))) (by rfl) (by intro w';go_simp) ?_;go_frame
     refine AnyT.takeP (i:=3) (v:=.int .i64 K) rfl rfl rfl (by kernel_rfl) (by kernel_rfl) (by kernel_rfl) (by first|exact(fun _ _ _ h=>h)|exact(fun _ _ _ h=>absurd h.1 (by simp))) (by rfl) (by intro w';go_simp) ?_;go_frame
     refine AnyT.takeP (i:=4) (v:=.int .i64 a) rfl rfl rfl (by kernel_rfl) (by kernel_rfl) (by kernel_rfl) (by first|exact(fun _ _ _ h=>h)|exact(fun _ _ _ h=>absurd h.1 (by simp))) (by rfl) (by intro w';go_simp) ?_;go_frame
     refine AnyT.takeP (i:=5) (v:=.int .i64 ((K:Int)+(a:Int))) rfl rfl rfl (by kernel_rfl) (by kernel_rfl) (by kernel_rfl) (by first|exact(fun _ _ _ h=>h)|exact(fun _ _ _ h=>absurd h.1 (by simp))) (by rfl) (by intro w';go_simp) ?_;go_frame
     refine AnyT.takeP (i:=6) (v:=.slice (some ⟨g0,0,none⟩) N cap) rfl rfl rfl (by kernel_rfl) (by kernel_rfl) (by kernel_rfl) (by first|exact(fun _ _ _ h=>h)|exact(fun _ _ _ h=>absurd h.1 (by simp))) (by rfl) (by intro w';go_simp) ?_;go_frame
     refine AnyT.takeP (i:=7) (v:=.int .i64 K) rfl rfl rfl (by kernel_rfl) (by kernel_rfl) (by kernel_rfl) (by first|exact(fun _ _ _ h=>h)|exact(fun _ _ _ h=>absurd h.1 (by simp))) (by rfl) (by intro w';go_simp) ?_;go_frame
     refine AnyT.takeP (i:=8) (v:=.int .i64 a) rfl rfl rfl (by kernel_rfl) (by kernel_rfl) (by kernel_rfl) (by first|exact(fun _ _ _ h=>h)|exact(fun _ _ _ h=>absurd h.1 (by simp))) (by rfl) (by intro w';go_simp) ?_;go_frame
     refine AnyT.takeP (i:=9) (v:=.int .i64 ((K:Int)+(a:Int))) rfl rfl rfl (by kernel_rfl) (by kernel_rfl) (by kernel_rfl) (by first|exact(fun _ _ _ h=>h)|exact(fun _ _ _ h=>absurd h.1 (by simp))) (by rfl) (by intro w';go_simp) ?_;go_frame
     refine AnyT.takeP (i:=10) (v:=.pointer (some ⟨g0,K+a,none⟩)) rfl rfl rfl (by kernel_rfl) (by kernel_rfl) (by kernel_rfl) (by first|exact(fun _ _ _ h=>h)|exact(fun _ _ _ h=>absurd h.1 (by simp))) (by rfl) (by intro w';go_simp) ?_;go_frame
     refine AnyT.takeP (i:=12) (v:=.slice (some ⟨g0,0,none⟩) N cap) rfl rfl rfl (by kernel_rfl) (by kernel_rfl) (by kernel_rfl) (by first|exact(fun _ _ _ h=>h)|exact(fun _ _ _ h=>absurd h.1 (by simp))) (by rfl) (by intro w';go_simp) ?_;go_frame
     refine AnyT.takeP (i:=13) (v:=.int .i64 K) rfl rfl rfl (by kernel_rfl) (by kernel_rfl) (by kernel_rfl) (by first|exact(fun _ _ _ h=>h)|exact(fun _ _ _ h=>absurd h.1 (by simp))) (by rfl) (by intro w';go_simp) ?_;go_frame
     refine AnyT.takeP (i:=14) (v:=.pointer (some ⟨g0,K,none⟩)) rfl rfl rfl (by kernel_rfl) (by kernel_rfl) (by kernel_rfl) (by first|exact(fun _ _ _ h=>h)|exact(fun _ _ _ h=>absurd h.1 (by simp))) (by rfl) (by intro w';go_simp) ?_;go_frame
     refine AnyT.takeS (i:=15) (v:=hdK) rfl rfl (by kernel_rfl) (by kernel_rfl) (by kernel_rfl) (by first|exact(fun _ _ _ h=>h)|exact(fun _ _ _ h=>absurd h.1 (by simp))) (by kernel_rfl) (by rfl) (by rintro w' ⟨q4,q5⟩;go_simp) (HS.out _ rfl) ?_;go_frame
     refine AnyT.takeS (i:=11) (v:=hdA) rfl rfl (by kernel_rfl) (by kernel_rfl) (by kernel_rfl) (by first|exact(fun _ _ _ h=>h)|exact(fun _ _ _ h=>absurd h.1 (by simp))) (by kernel_rfl) (by rfl) (by rintro w' ⟨q4,q5⟩;go_simp) (HS.out _ rfl) ?_;go_frame
     refine AnyT.takeP (i:=16) (v:=.pointer (some ⟨g0,K,none⟩)) rfl rfl rfl (by kernel_rfl) (by kernel_rfl) (by kernel_rfl) (by first|exact(fun _ _ _ h=>h)|exact(fun _ _ _ h=>absurd h.1 (by simp))) (by rfl) (by intro w';go_simp) ?_;go_frame
     obtain rfl:=HHA.out
     obtain rfl:=HHK.out
     refine AnyT.nx (i:=17) rfl ?_
     go_wp2
     refine⟨fun h=>absurd h (by decide),?_⟩
     refine AnyT.takeP (i:=18) (v:=.pointer (some ⟨g0,K+a,none⟩)) rfl rfl rfl (by kernel_rfl) (by kernel_rfl) (by kernel_rfl) (by first|exact(fun _ _ _ h=>h)|exact(fun _ _ _ h=>absurd h.1 (by simp))) (by rfl) (by intro w';go_simp) ?_;go_frame
     have hzA2:(w1.setCell ⟨g0,K,none⟩ (.slice (some ⟨gA,0,none⟩) R[K+a].length cA)).frozen? ⟨g0,K+a,none⟩=false:=by
      rw[World.frozen?_setCell];exact HZ.out _
     obtain⟨vy,hy⟩:=cell?_setCell_some (w:=w1) (p:=⟨g0,K,none⟩) (x:=.slice (some ⟨gA,0,none⟩) R[K+a].length cA) (q:=⟨g0,K+a,none⟩) (v:=.slice (some ⟨gA,0,none⟩) R[K+a].length cA) c2
     refine AnyT.nx (i:=19) rfl ?_
     go_wp2
     refine⟨fun h=>absurd h (by decide),?_⟩
     refine AnyT.done (by kernel_rfl) ?_ _
     obtain⟨hsw,hswk⟩:=HT1.out.swap hiK hia (by rw[HRL.out]) HC1.out HC2.out
     obtain⟨w2,hw2⟩:=exq (((w1.setCell ⟨g0,K,none⟩ (.slice (some ⟨gA,0,none⟩) R[K+a].length cA)).setCell ⟨g0,K+a,none⟩ (.slice (some ⟨gK,0,none⟩) R[K].length cK)).drew)
     rw[<- hw2]
     have hR2:(R.set K R[K+a]).set (K+a) R[K]=zGJ R K (K+a):=by
      unfold zGJ;rw[List.getElem?_eq_getElem hia,List.getElem?_eq_getElem hiK];rfl
     rw[hR2]at hsw
     have hT2:OwnT w2 base w.heap.size (.slice (some ⟨g0,0,none⟩) N cap) (zGJ R K (K+a)):=by rw[hw2];exact hsw
     have hk2:Keep (fun k=>k≠g0) w1 w2:=by
      rw[hw2]
      exact(((Keep.set w1 g0 K _).trans (Keep.set _ g0 (K+a) _)).drewN 1)
     have hR2K:(zGJ R K (K+a))[K]?.getD []=R[K+a]:=by
      rw[zMB hiK hia,if_pos rfl,List.getElem?_eq_getElem hia];rfl
     have hR2b:∀r∈zGJ R K (K+a),r.length=W∧BndL 1073741824 r:=by
      intro r hr
      obtain⟨q,hq,rfl⟩:=List.mem_iff_getElem.1 hr
      rw[zGM]at hq
      have e:=zMB hiK hia q
      rw[List.getElem?_eq_getElem (by rw[zGM];exact hq)]at e
      simp only[Option.getD_some]at e
      rw[e]
      have hlt:(if q=K then K+a else if q=K+a then K else q)<R.length:=by split<;>(try split)<;>omega
      rw[List.getElem?_eq_getElem hlt]
      exact HBD.out _ (List.getElem_mem hlt)
     have hR2l:(zGJ R K (K+a)).length=N:=by rw[zGM,HRL.out]
     obtain⟨R2,hRe⟩:=exq (zGJ R K (K+a))
     rw[<- hRe]at hT2 hR2K hR2b hR2l HE
     have HAA:=hid HA2.out
     have hbx2:w2.cell? ⟨wo.heap.size,0,none⟩=some (.int .i64 j):=by
      have hb0:w1.cell? ⟨wo.heap.size,0,none⟩=some (.int .i64 j):=by
       rw[hb1.cell (p:=⟨wo.heap.size,0,none⟩) (by simp),World.cell?_alloc_at _ _ _ _ rfl];rfl
      exact hk2.cell hb0 (by omega)
     have HBX2:=hid hbx2
     have HT2:=hid hT2
     have HK2:=hid hk2
     have HR2B:=hid hR2b
     have HR2L:=hid hR2l
     have hKR:K<R2.length:=by omega
     have hrow:R2[K]=R[K+a]:=by rw[<- hR2K,List.getElem?_eq_getElem hKR];rfl
     have HNZ:=hid (show vec R2[K] j≠0 by rw[hrow];simpa[nz]using HA2.out)
     obtain⟨gP,cP,c3,hP1,hP2,hP3,hsP,hput⟩:=hT2.row hR2l K hKR
     have hjl:j<R2[K].length:=by rw[(hR2b _ (List.getElem_mem hKR)).1];omega
     have hPl:R2[K].length=W:=(hR2b _ (List.getElem_mem hKR)).1
     have hPb:=(hR2b _ (List.getElem_mem hKR)).2
     obtain⟨P,hP⟩:=exq (R2[K])
     rw[<- hP]at c3 hsP hput HNZ hjl hPl hPb
     have c4:=hsP.cell hjl
     have hPj:=hPb.get hjl
     obtain⟨x,hx⟩:=exq (P[j]?.getD 0)
     rw[<- hx]at c4 hPj
     have HX:=hid (show vec P j=x from hx.symm)
     rw[hPl]at c3
     have HSP:=hid hsP
     have HPUT:=hid hput
     have HP:=hid hP
     have HPL:=hid hPl
     have HPB:=hid hPb
     have HRE:=hid hRe
     have hjW:(j:Int)<(W:Int):=by omega
     have hj0:(0:Int)<=(j:Int):=by omega
     clear hw2 hsw hswk hR2 hT2 hk2 hR2K hR2b hR2l hRe hrow hsP hput hjl hPl hPb hx hP hbw c1 c2 hy hzK hzA hzA2 HZ HS HW HC1 HC2 HA2 HT1
     go_wp2
     go_quiet (fail)
     go_upto_if 50 with (fail)
     have HT3:=hid (show OwnT (w2.drewN nq) base w.heap.size (.slice (some ⟨g0,0,none⟩) N cap) R2 from HT2.out)
     have HK3:=hid (show Keep (fun k=>k≠g0) w1 (w2.drewN nq)from HK2.out.drewN nq)
     have HSP3:=hid (show zBQ (w2.drewN nq) gP P from HSP.out)
     have HC3:=hid (show(w2.drewN nq).cell? ⟨g0,K,none⟩=some (.slice (some ⟨gP,0,none⟩) W cP)from c3)
     have HBX3:=hid (show(w2.drewN nq).cell? ⟨wo.heap.size,0,none⟩=some (.int .i64 j)from hbx2)
     have HPUT3:=hid (fun(w':World) (r':List Int) (h1:r'.length=P.length) (h2:zBQ w' gP r') (h3:∀k,base<=k->k<w.heap.size->k<(w2.drewN nq).heap.size->k≠gP->w'.heap[k]? =(w2.drewN nq).heap[k]?)=>HPUT.out w' r' h1 h2 h3)
     clear HT2 HK2 HSP HBX2 HPUT c3 c4 hbx2
     generalize w2.drewN nq=w3 at HT3 HK3 HSP3 HC3 HBX3 HPUT3⊢
     go_cut [9,13]from 13 to 103 (fun s9 s13 wx=>s13=.int .i64 j∧OwnT wx base w.heap.size (.slice (some ⟨g0,0,none⟩) N cap) (R2.set K (posF P j))∧Keep (fun k=>k≠gP) w3 wx)
     case first=>
      by_cases hxn:x<0
      ·have c3:=HC3.out
       rw[show decide (x<0)=true from decide_eq_true hxn]
       have HXN:=hid hxn
       clear hxn
       go_wp2
       go_loopw [56] (fun i wz=>∃t:Nat,t<=W∧i=.int .i64 t∧zBQ wz gP (zKG (fun x=> -x) P t)∧Keep (fun k=>k≠gP) w3 wz) (fun i _=>W-(intOf i).toNat)
       case atStart=>exact⟨0,Nat.zero_le _,rfl,by rw[zOC];exact HSP3.out,Keep.refl _ _⟩
       case round=>
        obtain⟨t,ht,rfl,hr,hkp⟩:=hrel
        by_cases hltt:t<W
        ·have htl:t<P.length:=by rw[HPL.out];exact hltt
         have d1:=hkp.cell HC3.out hP3
         have d2:=hr.cell (j:=t) (by rw[zJA];exact htl)
         rw[halfF_at _ htl]at d2
         have hz:=hr.frozen t
         have hbd:=HPB.out.get htl
         have hst:=halfF_set (fun x=> -x) htl
         have HSET:=hid (fun(X:World) (hX:X.heap[gP]? =wr.heap[gP]?) v=>(hr.keep hX).set t (by rw[zJA];exact htl) v)
         have hgs:=hr.lt
         obtain⟨y,hy⟩:=exq (P[t]?.getD 0)
         rw[<- hy]at d2 hbd hst
         have HST:=hid hst
         have HKP:=hid hkp
         have hwn:IntKind.i64.wrap (-y)= -y:=IntWalk.i64_in _ (by omega)
         have ht0:(0:Int)<=(t:Int):=by omega
         have ht1:(t:Int)<(W:Int):=by omega
         have hk0:(K:Int)<(N:Int):=by omega
         clear hr hkp hst hy htl c3
         go_wp2
         go_still_tail 14,(by kernel_rfl)
         change wpList _ _ _ _ _ wr.drew
         go_wp2
         refine⟨⟨t+1,by omega,by go_num,?_,(HKP.out.drewN 1).trans (Keep.set wr.drew gP t _)⟩,by simp[intOf];omega⟩
         rw[<- HST.out]
         exact HSET.out wr.drew rfl _
        ·obtain rfl:t=W:=by omega
         go_wp2
         go_meet
         case rel=>
          refine⟨rfl,?_,hkp⟩
          rw[<- HPL.out,halfF_all]at hr
          have e:posF P j=P.map (fun x=> -x):=by unfold posF negF;rw[HX.out,if_pos HXN.out]
          rw[e]
          exact HPUT3.out _ _ (by simp) hr (fun k _ _ hk hne=>hkp.block k hk hne)
      ·rw[show decide (x<0)=false from decide_eq_false hxn]
       have HXN:=hid hxn
       clear hxn
       go_wp2
       go_meet
       case rel=>
        refine⟨rfl,?_,Keep.refl _ _⟩
        have e:posF P j=P:=by unfold posF;rw[HX.out,if_neg (by have:=HXN.out;omega)]
        rw[e]
        exact HPUT3.out _ _ rfl HSP3.out (fun k _ _ hk hne=>rfl)
     case rest=>
      obtain⟨rfl,hT4,hk4⟩:=hcut
      obtain⟨Pp,hPp⟩:=exq (posF P j)
      rw[<- hPp]at hT4
      have hPpl:Pp.length=W:=by rw[hPp,zIQ,HPL.out]
      have hPpb:BndL 1073741824 Pp:=by
       intro y hy
       obtain⟨i,hi,rfl⟩:=List.mem_iff_getElem.1 hy
       obtain⟨z,hz,e⟩:=zIP P j
       have h1:=e i
       rw[<- hPp,zCY hi]at h1
       have h2:=HPB.out.get (k:=i) (by rw[HPL.out,<- hPpl];exact hi)
       have h3:vec P i=P[i]?.getD 0:=rfl
       rw[h1,h3]
       rcases hz with rfl|rfl<;>omega
      have hPpj:vec Pp j≠0:=by
       have:=zIO (l:=P) (j:=j) HNZ.out
       rw[<- hPp]at this;omega
      obtain⟨L3,hL3⟩:=exq (R2.set K Pp)
      have hL3l:L3.length=N:=by rw[hL3,List.length_set,HR2L.out]
      have hL3K:L3[K]? =some Pp:=by subst hL3;exact List.getElem?_set_self hKR
      have hL3o:∀q (hq:q<L3.length),q≠K->(L3[q]).length=W∧BndL 1073741824 (L3[q]):=by
       intro q hq hne
       subst hL3
       rw[List.getElem_set_ne (Ne.symm hne)]
       exact HR2B.out _ (List.getElem_mem _)
      have hfin:(zCX R2 K j)=zBU L3 Pp K j N:=by
       rw[<- hL3l,clearTo_all,hL3]
       unfold zCX
       have:R2[K]?.getD []=P:=by rw[HP.out,List.getElem?_eq_getElem hKR];rfl
       rw[this,<- hPp]
      have HFIN:=hid hfin
      have HPPL:=hid hPpl
      have HPPB:=hid hPpb
      have HPPJ:=hid hPpj
      rw[<- hL3]at hT4
      have hcl0:zBU L3 Pp K j 0=L3:=clearTo_zero _ _ _ _
      have HT4:=hid (show OwnT wc base w.heap.size (.slice (some ⟨g0,0,none⟩) N cap) (zBU L3 Pp K j 0)by rw[hcl0];exact hT4)
      have HL3L:=hid hL3l
      have HL3K:=hid hL3K
      have HL3O:=hid hL3o
      have hbx4:wc.cell? ⟨wo.heap.size,0,none⟩=some (.int .i64 j):=hk4.cell HBX3.out (by omega)
      have HBX4:=hid hbx4
      have HK4:=hid (show Keep (Out base w.heap.size) w1 wc from(HK3.out.mono (fun k hk=>by rcases hk with h|h<;>omega)).trans (hk4.mono (fun k hk=>by rcases hk with h|h<;>omega)))
      clear hPp hPpl hPpb hPpj hL3l hL3K hL3o hfin hL3 hcl0 hT4 hbx4 hk4 HT3 HK3 HSP3 HC3 HBX3 HPUT3
      go_wp2
      go_loopw [76] (fun i wr=>∃t:Nat,t<=N∧i=.int .i64 t∧OwnT wr base w.heap.size (.slice (some ⟨g0,0,none⟩) N cap) (zBU L3 Pp K j t)∧Keep (Out base w.heap.size) wc wr) (fun i _=>N-(intOf i).toNat)
      case atStart=>exact⟨0,Nat.zero_le _,rfl,HT4.out,Keep.refl _ _⟩
      case round=>
       obtain⟨t,ht,rfl,hTt,hkt⟩:=hrel
       by_cases hltt:t<N
       ·have htL:t<L3.length:=by rw[HL3L.out];exact hltt
        have hMl:(zBU L3 Pp K j t).length=N:=by rw[zNH,HL3L.out]
        obtain⟨gi,ci,d1,i1,i2,i3,hsp,hput⟩:=hTt.row hMl t (by rw[hMl];exact hltt)
        have hMt:(zBU L3 Pp K j t)[t]'(by rw[hMl];exact hltt)=L3[t]:=by rw[zEZ htL,if_neg (by omega)]
        rw[hMt]at d1 hsp hput
        have hset:=clearTo_set (p:=Pp) (k:=K) (j:=j) htL
        have hself:(zBU L3 Pp K j t).set t L3[t]=zBU L3 Pp K j t:=by
         rw[<- hMt];exact List.set_getElem_self _
        have hbx5:wr.cell? ⟨wo.heap.size,0,none⟩=some (.int .i64 j):=hkt.cell HBX4.out (.inr (by omega))
        have HTT:=hid hTt
        have HKT:=hid hkt
        have ht0:(0:Int)<=(t:Int):=by omega
        have ht1:(t:Int)<(N:Int):=by omega
        by_cases htK:t=K
        ·have hb:((t:Int) !=(K:Int))=false:=by simp[htK]
         have hsame:zBU L3 Pp K j (t+1)=zBU L3 Pp K j t:=by
          rw[<- hset];unfold zFF;rw[if_neg (by simp[htK])];exact hself
         have HSM:=hid hsame
         have hlen:L3[t].length=W:=by
          have h1:=HL3K.out
          rw[<- htK,List.getElem?_eq_getElem htL]at h1
          rw[Option.some.inj h1,HPPL.out]
         rw[hlen]at d1
         clear htK hset hself hsame hTt hkt hput hsp hMt hlen htL hMl
         go_wp2
         refine⟨⟨t+1,by omega,by go_num,by rw[HSM.out];exact HTT.out,HKT.out⟩,by simp[intOf];omega⟩
        ·have hb:((t:Int) !=(K:Int))=true:=by simp;omega
         obtain⟨hlW,hlB⟩:=HL3O.out t htL htK
         obtain⟨X,hX⟩:=exq (L3[t])
         rw[<- hX]at d1 hsp hput hset hself hlW hlB
         have d2:=hsp.cell (j:=j) (by omega)
         obtain⟨y,hy⟩:=exq (X[j]?.getD 0)
         rw[<- hy]at d2
         have HY:=hid (show vec X j=y from hy.symm)
         have HTK:=hid htK
         have hMK:(zBU L3 Pp K j t)[K]'(by rw[hMl];exact hKlt)=Pp:=by
          have h1:=HL3K.out
          rw[List.getElem?_eq_getElem (by rw[HL3L.out];exact hKlt)]at h1
          rw[zEZ (by rw[HL3L.out];exact hKlt)]
          have h2:L3[K]'(by rw[HL3L.out];exact hKlt)=Pp:=Option.some.inj h1
          rw[h2]
          split
          ·unfold zFF;rw[if_neg (by simp)]
          ·rfl
         obtain⟨gk,ck,e1,k1,k2,k3,hspk,hputk⟩:=hTt.row hMl K (by rw[hMl];exact hKlt)
         rw[hMK]at e1 hspk
         have hne:gi≠gk:=hTt.ne hMl (i:=t) (j:=K) (by rw[hMl];exact hltt) (by rw[hMl];exact hKlt) htK d1 e1
         rw[hlW]at d1
         rw[HPPL.out]at e1
         by_cases hy0:y=0
         ·have hyb:(y !=0)=false:=by simp[hy0]
          have hsame:zBU L3 Pp K j (t+1)=zBU L3 Pp K j t:=by
           rw[<- hset];unfold zFF;rw[if_neg (by rw[HY.out];simp[hy0])];exact hself
          have HSM:=hid hsame
          clear htK hset hself hsame hTt hkt hput hsp hMt hX hlW hlB hy hMK hspk hne hputk hy0 htL hMl
          go_wp2
          refine⟨⟨t+1,by omega,by go_num,by rw[HSM.out];exact HTT.out,HKT.out⟩,by simp[intOf];omega⟩
         ·have hyb:(y !=0)=true:=by simpa using hy0
          have hst:zBU L3 Pp K j (t+1)=(zBU L3 Pp K j t).set t (zGH X Pp j):=by
           rw[<- hset];unfold zFF;rw[if_pos ⟨htK,by rw[HY.out];exact hy0⟩]
          have HST:=hid hst
          have HCL:=hid (fun(Wd:World) (hW:Wd.heap=wr.heap)=>cleared_c Wd gi W ci gk ck X Pp hlW HPPL.out (by unfold maxLen;omega) (hsp.keep (by rw[hW])) (hspk.keep (by rw[hW])) hne hlB HPPB.out j (by omega) HPPJ.out)
          have HPU:=hid hput
          have HGI:=hid (And.intro i1 i2)
          have HLW:=hid hlW
          clear htK hset hself hst hTt hkt hput hsp hMt hX hlW hlB hy hMK hspk hne hputk hy0 htL hMl
          go_wp2
          go_still_tail 6,(by kernel_rfl)
          change wpList _ _ _ _ _ wr.drew
          generalize hwz:wr.drew=wz
          have HWZ:=hid hwz
          have HCZ:=hid (HCL.out wz (by rw[<- hwz];rfl))
          clear hwz
          go_wp2_with fail
          refine(HCZ.out).mono ?_
          rintro e w7 ⟨rfl,hs7,hk7⟩
          go_wp2
          have hk7':Keep (fun k=>k≠gi) wr w7:=(show Keep (fun k=>k≠gi) wr wz by rw[<- HWZ.out];exact(Keep.refl _ _).drewN 1).trans hk7
          refine⟨⟨t+1,by omega,by go_num,?_,HKT.out.trans (hk7'.mono fun k hk=>by have:=HGI.out;rcases hk with h|h<;>omega)⟩,by simp[intOf];omega⟩
          rw[HST.out]
          exact HPU.out _ _ (by rw[zON (by rw[HLW.out,HPPL.out])]) hs7 (fun k _ _ hk hne=>hk7'.block k hk hne)
       ·obtain rfl:t=N:=by omega
        rw[<- HFIN.out]at hTt
        have HTT:=hid hTt
        have HKT:=hid (HK4.out.trans hkt)
        have hbx6:wr.cell? ⟨wo.heap.size,0,none⟩=some (.int .i64 j):=hkt.cell HBX4.out (.inr (by omega))
        have hsz6:=hkt.size
        have hkeep:Keep (fun k=>w.heap.size<=k) wo wr:=(Keep.of_below hbw').trans (HKT.out.mono fun k hk=>.inr hk)
        have HO6:=hid (own_keep HOW.out hkeep (fun k hk=>hk))
        have M1:=hid (show K+1<=maxLen by unfold maxLen;omega)
        have M2:=hid (show(K+1)*8<=140737488355328 by omega)
        have M3:=hid (Nat.le_trans (show w.heap.size<=wr.heap.size by have:=hkeep.size;omega) (zCH wr (.cells #[.int .i64 (j:Int)] 3)))
        have HKW:=hid (show Keep (Out base w.heap.size) wo wr from(Keep.of_below hbw').trans HKT.out)
        clear hTt hkt hkeep
        go_wp2_with (at_builtin;refine zAQ _ rfl (.tmp 99) (.tmp 101) 24 rfl w.heap.size 3 (.int .i64 0) 1 8 Tryz.underlying24 zEF rfl Nat.one_pos (.slice vp K vcap) K _ rfl (HO6.out.alloc _) (some ⟨wr.heap.size,0,none⟩) 1 1 [.int .i64 (j:Int)] rfl rfl zCD (zBT wr _ _) (zEE _) M1.out M2.out M3.out ?_;refine Stop.of ?_)
        refine Stop.go ?_
        intro a3 c3 w8 own8 g8
        have hsw0:w.heap.size<=wr.heap.size:=by have:=HKW.out.size;omega
        have hkg:∀k,k<w.heap.size->w8.heap[k]? =wr.heap[k]? :=fun k hk=>by
         have h1:=g8.block k (by simp;omega) (fun e=>by have:=(HO6.out.lt k e.symm).1;omega)
         rw[h1]
         exact(Below.heap_alloc _ _ _ (by omega))
        have hsw:w.heap.size<=wr.heap.size:=by have:=HKW.out.size;omega
        have hb8:Below w.heap.size wr w8:=⟨g8.os,g8.tape,g8.output,by have:=g8.size;simp at this;omega,fun k hk=>hkg k hk⟩
        go_wp2
        refine⟨⟨j+1,by omega,by go_num,?_,?_,?_⟩,by simp[intOf];omega⟩
        ·rw[HE.out]
         simp only[List.length_append,List.length_singleton,List.map_append,List.map_cons,List.map_nil]
         rw[<- HK.out]
         exact own8
        ·rw[HE.out]
         exact HTT.out.keep fun k _ hk _=>hkg k hk
        ·exact HBK.out.trans ⟨hb8.os.trans HKW.out.os,hb8.tape.trans HKW.out.tape,hb8.output.trans HKW.out.output,Nat.le_trans HKW.out.size hb8.size,fun k hk=>(hkg k (by have:=HBA.out;omega)).trans (HKW.out.block k (by have:=HBA.out;omega) (.inl hk))⟩
   ·have hKe:K=N:=by omega
    have hd:R.drop K=[]:=List.drop_eq_nil_of_le (by rw[HRL.out];omega)
    have HE:=hid (show pRed L (j+1)=(R,J)by rw[HSJ.out];exact zOA (by rw[<- HK.out,hd];rfl))
    have HI:=hid (fun(a:Option Addr) (c:Nat)=>indexRok (wo.alloc (.cells #[.int .i64 j] 3)) a 0 c [] rfl (by decide) (fun i hi=>by simp at hi) 229 #[.pointer (some ⟨wo.heap.size,0,none⟩)] _ _ (enters_of Tryz.func229 (by kernel_rfl) rfl) HPR.out (fun x hx=>by simp at hx))
    simp only[idxP]at HI
    subst hKe
    have hk1:(0:Int)<=(K:Int):=by omega
    clear hd HPR HRW hfz0
    rcases Decidable.em (cap=K)with rfl|hcK
    all_goals
     go_wp2_with (go_at_call 228;refine(HI.out _ _).mono ?_;rintro e w1 ⟨rfl,hb1⟩)
     have hbw:=zAA HBX.out hb1
     refine⟨⟨j+1,by omega,by go_num,?_,?_,?_⟩,by simp[intOf];omega⟩
     ·rw[HE.out]
      simp only[]
      rw[<- HK.out]
      exact zBI HOW.out hbw
     ·rw[HE.out]
      exact HT.out.keep fun k _ _ hk=>hbw.block k hk
     ·exact HBK.out.trans (hbw.mono HBK.out.size |>.mono (by have:=HBA.out;omega))
  ·obtain rfl:j=n:=by omega
   go_wp2
   go_ret
   exact⟨_,rfl,hown,hT,hbk⟩
end
section
open Go.RowKit
theorem gcd_tmod(p q:Int):Int.gcd q (p.tmod q)=Int.gcd p q:=by
 unfold Int.gcd
 rw[Int.natAbs_tmod]
 rcases Nat.eq_zero_or_pos q.natAbs with h|h
 ·rw[h];simp
 ·exact gcd_mod _ _ h
theorem zHW(w:World)(a b:Int)(ha: -4611686018427387904<=a∧a<=4611686018427387904)(hb: -4611686018427387904<=b∧b<=4611686018427387904):
 Calls Tryz.prog 211 #[.int .i64 a,.int .i64 b] w fun e w'=>e=.returned (.int .i64 (Int.gcd a b:Nat))∧∃k,w'=w.drewN k:=by
 obtain⟨G,hG⟩:∃G:Nat,G=Int.gcd a b:=⟨_,rfl⟩
 rw[<- hG]
 have HG:=hid hG
 clear hG
 obtain⟨ha1,ha2⟩:=ha
 obtain⟨hb1,hb2⟩:=hb
 go_enter Tryz.func211,Tryz.ntmps211
 go_wp2
 go_loopw [0,1] (fun u v wr=>∃p q:Int,u=.int .i64 p∧v=.int .i64 q∧ -4611686018427387904<=p∧p<=4611686018427387904∧ -4611686018427387904<=q∧q<=4611686018427387904∧Int.gcd p q=G∧∃k,wr=w.drewN k) (fun _ v _=>(intOf v).natAbs)
 case atStart=>exact⟨a,b,rfl,rfl,ha1,ha2,hb1,hb2,HG.out.symm,0,rfl⟩
 case round=>
  obtain⟨p,q,rfl,rfl,hp1,hp2,hq1,hq2,hg,k,rfl⟩:=hrel
  have HGG:=hid hg
  clear hg
  by_cases h0:q=0
  ·subst h0
   have hn:IntKind.i64.wrap (-p)= -p:=IntWalk.i64_in _ (by omega)
   have HGP:=hid (show max p (-p)=((G:Nat):Int)by
    have:=HGG.out
    rw[Int.gcd_zero_right]at this
    omega)
   go_wp2
   all_goals
    go_ret
    exact⟨zDB (by have:=HGP.out;omega),_,rfl⟩
  ·have hne:(q !=0)=true:=by simpa using h0
   have hlt:(p.tmod q).natAbs<q.natAbs:=by rw[Int.natAbs_tmod];exact Nat.mod_lt _ (by omega)
   have hw:IntKind.i64.wrap (p.tmod q)=p.tmod q:=IntWalk.i64_in _ (by omega)
   have HGM:=hid ((gcd_tmod p q).trans HGG.out)
   have HLT:=hid hlt
   clear hlt
   go_wp2
   go_quiet (fail)
   go_wp2
   have h1:=HLT.out
   exact⟨⟨q,p.tmod q,rfl,rfl,hq1,hq2,by omega,by omega,HGM.out,_,zJF _ _ _⟩,by show(p.tmod q).natAbs<q.natAbs;exact h1⟩
theorem zIM(w:World)(a:Option Addr)(n cap:Nat)(l:List Int)(hn:l.length=n)(hm:n<=1000)(H:zAI w a l)(hB:BndL 4611686018427387904 l):
 Calls Tryz.prog 226 #[.slice a n cap] w fun e w'=>∃v,e=.returned v∧w'.ownsRow w.heap.size 3 1 v n ((zDM l).map (Value.int .i64))∧Below w.heap.size w w':=by
 have HN:=hid hn
 have HH:=hid H
 have HBL:=hid hB
 have HGT:=hid (fun(k:Nat) (hk:k<l.length)=>gcdL_take hk)
 have HG0:=hid (fun k=>zGE (l.take k))
 have HGL:=hid (fun(k:Nat)=>gcdL_le (hB.take k))
 clear hn H hB
 go_enter Tryz.func226,Tryz.ntmps226
 go_wp2
 go_loopw [3,11] (fun g i wr=>∃k:Nat,k<=n∧i=.int .i64 k∧g=.int .i64 (gcdL (l.take k))∧Below w.heap.size w wr) (fun _ i _=>n-(intOf i).toNat)
 case atStart=>exact⟨0,Nat.zero_le _,rfl,rfl,Below.refl _ _⟩
 case round=>
  obtain⟨k,hk,rfl,rfl,hbk⟩:=hrel
  by_cases hlt:k<n
  ·have hkl:k<l.length:=by rw[HN.out];exact hlt
   obtain⟨b,off,rfl,hbs,hc⟩:=(HH.out.below hbk) k hkl
   have hbd:=HBL.out.get hkl
   have hg:=HGT.out k hkl
   have hg0:=HG0.out k
   have hgl:=HGL.out k
   obtain⟨x,hx⟩:=exq (l[k]?.getD 0)
   rw[<- hx]at hc hbd hg
   obtain⟨G,hG⟩:=exq (gcdL (l.take k))
   rw[<- hG]at hg hg0 hgl⊢
   have HD:=hid (zHW wr G x (by omega) (by omega))
   rw[<- hg]at HD
   have HB:=hid hbk
   clear hg hG hx hkl hbk
   go_wp2_with (go_at_call 211;refine HD.out.mono ?_;rintro e w1 ⟨rfl,q,rfl⟩)
   exact⟨⟨k+1,by omega,by go_num,rfl,zAJ HB.out _⟩,by simp[intOf];omega⟩
  ·obtain rfl:k=n:=by omega
   have e:l.take k=l:=List.take_of_length_le (by rw[HN.out];exact Nat.le_refl _)
   have hg0:=HG0.out k
   have hgl:=HGL.out k
   rw[e]at hg0 hgl⊢
   obtain⟨G,hG⟩:=exq (gcdL l)
   rw[<- hG]at hg0 hgl⊢
   have HG:=hid hG
   have HB:=hid hbk
   have hpf:zDM l=l.map (fun x=>x.tdiv (max G 1)):=by unfold zDM;rw[<- HG.out]
   have HPF:=hid hpf
   obtain⟨d,hd⟩:=exq (max G 1)
   have HD:=hid hd
   have hd1:1<=d:=by omega
   clear e hG hbk hpf hd
   obtain⟨w1,hw1⟩:=exq (wr)
   subst hw1
   go_wp2
   go_loopw [6,21] (fun v i wr=>∃t:Nat,t<=k∧i=.int .i64 t∧wr.ownsRow w.heap.size 3 1 v t ((l.take t).map (fun x=>Value.int .i64 (x.tdiv d)))∧Below w.heap.size w wr) (fun _ i _=>k-(intOf i).toNat)
   case atStart=>exact⟨0,Nat.zero_le _,rfl,World.ownsRow_nil _ _ _ _,HB.out⟩
   case round=>
    obtain⟨t,ht,rfl,hown,hbt⟩:=hrel
    by_cases hlt:t<k
    ·have htl:t<l.length:=by rw[HN.out];exact hlt
     obtain⟨b,off,rfl,hbs,hc⟩:=(HH.out.below hbt) t htl
     have hbd:=HBL.out.get htl
     have hsn:(l.take (t+1)).map (fun x=>Value.int .i64 (x.tdiv d))=(l.take t).map (fun x=>Value.int .i64 (x.tdiv d))++[.int .i64 ((l[t]?.getD 0).tdiv d)]:=by
      rw[List.take_succ_eq_append_getElem htl,List.map_append,List.getElem?_eq_getElem htl];rfl
     obtain⟨x,hx⟩:=exq (l[t]?.getD 0)
     rw[<- hx]at hc hbd hsn
     obtain⟨va,vc,rfl⟩:=zAD hown
     have htd:=zLI hd1 (show-(4611686018427387904:Int)<=x∧x<=4611686018427387904 by omega)
     have hwq:IntKind.i64.wrap (x.tdiv d)=x.tdiv d:=IntWalk.i64_in _ (by omega)
     have HSN:=hid hsn
     have HO:=hid hown
     have HBT:=hid hbt
     have M1:=hid (show t+1<=maxLen by unfold maxLen;omega)
     have M2:=hid (show(t+1)*8<=140737488355328 by omega)
     have M3:=hid (Nat.le_trans hbt.size (zCH wr (.cells #[.int .i64 (x.tdiv d)] 3)))
     clear hown hbt hsn hx htl htd
     rcases Int.lt_or_le G 1 with hG1|hG1
     ·obtain rfl:d=1:=by have:=HD.out;omega
      have hGG:¬(1<=G):=by omega
      rw[Int.tdiv_one]at HSN M3 hwq
      go_wp2_with (at_builtin;refine zAQ _ rfl (.tmp 25) (.tmp 30) 24 rfl w.heap.size 3 (.int .i64 0) 1 8 Tryz.underlying24 zEF rfl Nat.one_pos (.slice va t vc) t _ rfl (HO.out.alloc _) (some ⟨wr.heap.size,0,none⟩) 1 1 [.int .i64 x] rfl rfl zCD (zBT wr _ _) (zEE _) M1.out M2.out M3.out ?_;refine Stop.of ?_)
      refine Stop.go ?_
      intro a3 c3 w3 own3 g3
      have hB3:Below w.heap.size w w3:=(HBT.out.alloc HBT.out.size _).grown g3 M3.out (fun k hk=>(HO.out.lt k hk).1)
      go_wp2
      refine⟨⟨t+1,by omega,by go_num,?_,hB3⟩,by simp[intOf];omega⟩
      rw[HSN.out]
      simpa using own3
     ·obtain rfl:d=G:=by have:=HD.out;omega
      have hgz:¬(d=0):=by omega
      go_wp2_with (at_builtin;refine zAQ _ rfl (.tmp 25) (.tmp 30) 24 rfl w.heap.size 3 (.int .i64 0) 1 8 Tryz.underlying24 zEF rfl Nat.one_pos (.slice va t vc) t _ rfl (HO.out.alloc _) (some ⟨wr.heap.size,0,none⟩) 1 1 [.int .i64 (x.tdiv d)] rfl rfl zCD (zBT wr _ _) (zEE _) M1.out M2.out M3.out ?_;refine Stop.of ?_)
      refine Stop.go ?_
      intro a3 c3 w3 own3 g3
      have hB3:Below w.heap.size w w3:=(HBT.out.alloc HBT.out.size _).grown g3 M3.out (fun k hk=>(HO.out.lt k hk).1)
      go_wp2
      refine⟨⟨t+1,by omega,by go_num,?_,hB3⟩,by simp[intOf];omega⟩
      rw[HSN.out]
      simpa using own3
    ·obtain rfl:t=k:=by omega
     rw[List.take_of_length_le (by rw[HN.out];exact Nat.le_refl _)]at hown
     go_wp2
     go_ret
     refine⟨_,rfl,?_,hbt⟩
     rw[HPF.out,<- HD.out,List.map_map]
     exact hown
theorem r3scaled_c(w:World)(a:Option Addr)(n cap:Nat)(l:List Int)(hn:l.length=n)(hm:n<=1000)(H:zAI w a l)(hB:BndL 4611686018427387904 l):
 Calls Tryz.prog 185 #[.slice a n cap,.int .i64 (-1)] w fun e w'=>∃v,e=.returned v∧w'.ownsRow w.heap.size 3 1 v n ((negF l).map (Value.int .i64))∧Below w.heap.size w w':=by
 have HN:=hid hn
 have HH:=hid H
 have HBL:=hid hB
 have HPF:=hid (show negF l=l.map (fun x=> -x)from rfl)
 clear hn H hB
 go_enter Tryz.func185,Tryz.ntmps185
 go_wp2
 go_loopw [5,10] (fun v i wr=>∃t:Nat,t<=n∧i=.int .i64 t∧wr.ownsRow w.heap.size 3 1 v t ((l.take t).map (fun x=>Value.int .i64 (-x)))∧Below w.heap.size w wr) (fun _ i _=>n-(intOf i).toNat)
 case atStart=>exact⟨0,Nat.zero_le _,rfl,World.ownsRow_nil _ _ _ _,Below.refl _ _⟩
 case round=>
  obtain⟨t,ht,rfl,hown,hbt⟩:=hrel
  by_cases hlt:t<n
  ·have htl:t<l.length:=by rw[HN.out];exact hlt
   obtain⟨b,off,rfl,hbs,hc⟩:=(HH.out.below hbt) t htl
   have hbd:=HBL.out.get htl
   have hsn:(l.take (t+1)).map (fun x=>Value.int .i64 (-x))=(l.take t).map (fun x=>Value.int .i64 (-x))++[.int .i64 (-(l[t]?.getD 0))]:=by
    rw[List.take_succ_eq_append_getElem htl,List.map_append,List.getElem?_eq_getElem htl];rfl
   obtain⟨x,hx⟩:=exq (l[t]?.getD 0)
   rw[<- hx]at hc hbd hsn
   obtain⟨y,hy⟩:=exq (-x)
   obtain⟨va,vc,rfl⟩:=zAD hown
   have hwq:wrap64 (-x)=y:=by unfold wrap64;omega
   rw[<- hy]at hsn
   have HSN:=hid hsn
   have HO:=hid hown
   have HBT:=hid hbt
   have M1:=hid (show t+1<=maxLen by unfold maxLen;omega)
   have M2:=hid (show(t+1)*8<=140737488355328 by omega)
   have M3:=hid (Nat.le_trans hbt.size (zCH wr (.cells #[.int .i64 y] 3)))
   clear hown hbt hsn hx htl hbd hy
   go_wp2_with (at_builtin;refine zAQ _ rfl (.tmp 14) (.tmp 18) 24 rfl w.heap.size 3 (.int .i64 0) 1 8 Tryz.underlying24 zEF rfl Nat.one_pos (.slice va t vc) t _ rfl (HO.out.alloc _) (some ⟨wr.heap.size,0,none⟩) 1 1 [.int .i64 y] rfl rfl zCD (zBT wr _ _) (zEE _) M1.out M2.out M3.out ?_;refine Stop.of ?_)
   refine Stop.go ?_
   intro a3 c3 w3 own3 g3
   have hB3:Below w.heap.size w w3:=(HBT.out.alloc HBT.out.size _).grown g3 M3.out (fun k hk=>(HO.out.lt k hk).1)
   go_wp2
   refine⟨⟨t+1,by omega,by go_num,?_,hB3⟩,by simp[intOf];omega⟩
   rw[HSN.out]
   simpa using own3
  ·obtain rfl:t=n:=by omega
   rw[List.take_of_length_le (by rw[HN.out];exact Nat.le_refl _)]at hown
   go_wp2
   go_ret
   refine⟨_,rfl,?_,hbt⟩
   rw[HPF.out,List.map_map]
   exact hown
end
section
def upF(a:Int):Nat->List Int
 |0=>[]
 |m+1=>a::upF (a+1) m
theorem zHT:∀(m:Nat) (a:Int),(upF a m).length=m
 |0,_=>rfl
 |m+1,a=>by simp[upF,zHT m]
def comb:Nat->Nat->Int->List (List Int)
 |_,0,_=>[[]]
 |0,_+1,_=>[]
 |m+1,k+1,a=>(comb m k (a+1)).map (a:: ·)++comb m (k+1) (a+1)
def zHX(n:Int):List Int->Option (List Int)
 | []=>none
 |a::r=>match zHX n r with
  |some s=>some (a::s)
  |none=>if a+r.length+1<n then some (upF (a+1) (r.length+1))else none
theorem zGY:∀(m k:Nat) (a:Int),m<k->comb m k a=[]
 |0,k+1,a,_=>rfl
 |m+1,k+1,a,h=>by simp[comb,zGY m k (a+1) (by omega),zGY m (k+1) (a+1) (by omega)]
theorem zNG:∀(m k:Nat) (a:Int),k<=m->∃t,comb m k a=upF a k::t
 |m,0,a,_=>by cases m<;>exact⟨[],rfl⟩
 |m+1,k+1,a,h=>by
  obtain⟨t,ht⟩:=zNG m k (a+1) (by omega)
  exact⟨t.map (a:: ·)++comb m (k+1) (a+1),by simp[comb,ht,upF]⟩
theorem zDD:∀(m k:Nat) (a:Int),∀x∈comb m k a,x.length=k
 |m,0,a,x,h=>by cases m<;>(simp[comb]at h;simp[h])
 |0,k+1,a,x,h=>by simp[comb]at h
 |m+1,k+1,a,x,h=>by
  simp only[comb,List.mem_append,List.mem_map]at h
  rcases h with⟨y,hy,rfl⟩|h
  ·simp[zDD m k (a+1) y hy]
  ·exact zDD m (k+1) (a+1) x h
theorem zJI:∀(m k:Nat) (a:Int),∀x∈comb m k a,x.Pairwise (· < ·)∧∀y∈x,a<=y∧y<a+m
 |m,0,a,x,h=>by cases m<;>(simp[comb]at h;simp[h])
 |0,k+1,a,x,h=>by simp[comb]at h
 |m+1,k+1,a,x,h=>by
  simp only[comb,List.mem_append,List.mem_map]at h
  rcases h with⟨y,hy,rfl⟩|h
  ·obtain⟨h1,h2⟩:=zJI m k (a+1) y hy
   refine⟨List.pairwise_cons.2 ⟨fun z hz=>by have:=h2 z hz;omega,h1⟩,fun z hz=>?_⟩
   rcases List.mem_cons.1 hz with rfl|hz
   ·omega
   ·have:=h2 z hz;omega
  ·obtain⟨h1,h2⟩:=zJI m (k+1) (a+1) x h
   exact⟨h1,fun z hz=>by have:=h2 z hz;omega⟩
theorem zJH:∀(m:Nat) (a:Int) (x:List Int),x.Pairwise (· < ·)->(∀y∈x,a<=y∧y<a+m)->x∈comb m x.length a
 |m,a,[],_,_=>by cases m<;>simp[comb]
 |0,a,y::x,_,h=>by have:=h y (by simp);omega
 |m+1,a,y::x,hp,h=>by
  rw[List.pairwise_cons]at hp
  simp only[List.length_cons,comb,List.mem_append,List.mem_map]
  by_cases e:y=a
  ·subst e
   exact .inl ⟨x,zJH m (y+1) x hp.2 (fun z hz=>by have:=hp.1 z hz;have:=h z (by simp[hz]);omega),rfl⟩
  ·right
   have:=h y (by simp)
   exact zJH m (a+1) (y::x) (List.pairwise_cons.2 hp) (fun z hz=>by
    rcases List.mem_cons.1 hz with rfl|hz'
    ·omega
    ·have h1:=hp.1 z hz';have:=h z hz;omega)
def Chn(n:Int)(e:Option (List Int)):List (List Int)->Prop
 | []=>True
 | [x]=>zHX n x=e
 |x::y::t=>zHX n x=some y∧Chn n e (y::t)
theorem Chn.append{n:Int}{e:Option (List Int)}{y:List Int}{t:List (List Int)}:∀{l:List (List Int)},Chn n (some y) l->Chn n e (y::t)->Chn n e (l++y::t)
 | [],_,h=>h
 | [x],h,h2=>⟨h,h2⟩
 |x::z::l,h,h2=>⟨h.1,Chn.append (l:=z::l) h.2 h2⟩
theorem Chn.cons{n a:Int}{k:Nat}:∀{l:List (List Int)},(∀x∈l,x.length=k)->Chn n none l->Chn n (if a+k+1<n then some (upF (a+1) (k+1))else none) (l.map (a:: ·))
 | [],_,_=>trivial
 | [x],hl,h=>by
   show(match zHX n x with|some s=>some (a::s)|none=>if a+x.length+1<n then some (upF (a+1) (x.length+1))else none)=_
   have h':zHX n x=none:=h
   rw[h',hl x (by simp)]
 |x::y::l,hl,h=>by
  refine⟨?_,Chn.cons (l:=y::l) (fun z hz=>hl z (by simp[List.mem_cons.1 hz])) h.2⟩
  show(match zHX n x with|some s=>some (a::s)|none=>_)=_
  rw[h.1]
theorem zPU:∀(m k:Nat) (a:Int),Chn (a+m) none (comb m k a)
 |m,0,a=>by cases m<;>exact rfl
 |0,k+1,a=>trivial
 |m+1,k+1,a=>by
  have h1:=Chn.cons (n:=a+(m+1:Nat)) (a:=a) (zDD m k (a+1)) (by have:=zPU m k (a+1);rwa [show a+1+(m:Int)=a+(m+1:Nat)by omega]at this)
  have h2:=zPU m (k+1) (a+1)
  rw[show a+1+(m:Int)=a+(m+1:Nat)by omega]at h2
  show Chn _ _ ((comb m k (a+1)).map (a:: ·)++comb m (k+1) (a+1))
  by_cases h:k+1<=m
  ·obtain⟨t,ht⟩:=zNG m (k+1) (a+1) h
   rw[if_pos (by omega)]at h1
   rw[ht]at h2⊢
   exact h1.append h2
  ·rw[if_neg (by omega)]at h1
   rw[zGY m (k+1) (a+1) (by omega),List.append_nil]
   exact h1
theorem Chn.at{n:Int}:∀{l:List (List Int)} {i:Nat} {x:List Int},Chn n none l->l[i]? =some x->l[i+1]? =zHX n x
 | [],i,x,_,h=>by simp at h
 | [y],0,x,h,hi=>by
   simp at hi;subst hi
   have h':zHX n y=none:=h
   rw[h'];rfl
 | [y],i+1,x,h,hi=>by simp at hi
 |y::z::l,0,x,h,hi=>by simp at hi;subst hi;rw[h.1];rfl
 |y::z::l,i+1,x,h,hi=>Chn.at (l:=z::l) h.2 (by simpa using hi)
theorem zPH{n:Int}:∀(m:Nat) (a:Int),a+m=n->zHX n (upF a m)=none
 |0,_,_=>rfl
 |m+1,a,h=>by
  show(match zHX n (upF (a+1) m)with|some s=>some (a::s)|none=>if a+(upF (a+1) m).length+1<n then _ else none)=_
  rw[zPH m (a+1) (by omega),zHT]
  simp only[]
  rw[if_neg (by omega)]
theorem nextS_at{n:Int}{m:Nat}{d:Int}(hd:d+m+1<n):∀u:List Int,zHX n (u++d::upF (n-m) m)=some (u++upF (d+1) (m+1))
 | []=>by
   show(match zHX n (upF (n-m) m)with|some s=>some (d::s)|none=>if d+(upF (n-m) m).length+1<n then some (upF (d+1) ((upF (n-m) m).length+1))else none)=_
   rw[zPH m (n-m) (by omega),zHT]
   simp only[]
   rw[if_pos hd];rfl
 |a::u=>by
  show(match zHX n (u++d::upF (n-m) m)with|some s=>some (a::s)|none=>_)=_
  rw[nextS_at hd u];rfl
def nextFrom(a:Int)(s:List Int):Int:=match s.getLast? with|some x=>x+1|none=>a
def extS(a n:Int)(s:List Int):List (List Int):=(upF (nextFrom a s) (n-nextFrom a s).toNat).map (fun j=>s++[j])
def lvls(n:Nat):Nat->List (List Int)
 |0=>comb n 0 0
 |k+1=>lvls n k++comb n (k+1) 0
def allS(n:Nat):List (List Int):=lvls n n
def grown(n at':Nat):List (List Int):=[[]]++((allS n).take at').flatMap (extS 0 n)
end
section
section
theorem Sp.mono{B B':Vec->Prop}(h:∀v,B v->B' v){v:Vec}(hv:Sp B v):Sp B' v:=hv.trans fun u hu=>.of (h u hu)
theorem RB.mono{K K':Nat}(h:K<=K'){W:Nat->Vec}{v:Vec}(hv:Sp (RB K W) v):Sp (RB K' W) v:=hv.mono fun u ⟨k,hk,e⟩=>⟨k,by omega,e⟩
theorem Sp.split{K:Nat}{W:Nat->Vec}{v:Vec}(h:Sp (RB (K+1) W) v):∃n a:Int,n≠0∧Sp (RB K W) (fun c=>n*v c+a*W K c):=by
 induction h with
 |of hb=>
  obtain⟨k,hk,rfl⟩:=hb
  by_cases e:k=K
  ·subst e;exact⟨1,-1,by decide,Sp.zero.congr fun c=>by grind⟩
  ·exact⟨1,0,by decide,(RB.sp (by omega:k<K)).congr fun c=>by grind⟩
 |zero=>exact⟨1,0,by decide,Sp.zero.congr fun c=>by simp⟩
 |add _ _ h1 h2=>
  obtain⟨n,a,hn,h1⟩:=h1
  obtain⟨m,b,hm,h2⟩:=h2
  exact⟨n*m,m*a+n*b,Int.mul_ne_zero hn hm,(Sp.lin m n h1 h2).congr fun c=>by grind⟩
 |mul x _ h1=>
  obtain⟨n,a,hn,h1⟩:=h1
  exact⟨n,x*a,hn,(Sp.mul x h1).congr fun c=>by grind⟩
 |div hx _ h1=>
  obtain⟨n,a,hn,h1⟩:=h1
  exact⟨n*_,a,Int.mul_ne_zero hn hx,h1.congr fun c=>by grind⟩
theorem Red.le:∀{K:Nat} {K':Nat} {J':Nat->Nat} {R':Nat->Vec} {W:Nat->Vec},Red K' J' R'->(∀k,k<K'->Sp (RB K W) (R' k))->K'<=K
 |0,K',J',R',W,h,hs=>by
  rcases Nat.eq_zero_or_pos K' with e|e
  ·omega
  ·exfalso
   have:∀{v:Vec},Sp (RB 0 W) v->∀c,v c=0:=by
    intro v hv
    induction hv with
    |of hb=>obtain⟨k,hk,_⟩:=hb;omega
    |zero=>intro c;rfl
    |add _ _ h1 h2=>intro c;simp only[h1,h2];rfl
    |mul x _ h1=>intro c;simp only[h1];simp
    |div hx _ h1=>intro c;exact zAV hx (h1 c)
   exact h.piv 0 e (this (hs 0 e) _)
 |K+1,K',J',R',W,h,hs=>by
  rcases Classical.em (∀k,k<K'->Sp (RB K W) (R' k))with c|c
  ·have:=Red.le h c;omega
  ·obtain⟨k0,c⟩:=Classical.not_forall.1 c
   obtain⟨hk0,c⟩:=Classical.not_imp.1 c
   obtain⟨n,a,hn,h0⟩:=(hs k0 hk0).split
   have ha:a≠0:=fun e=>c (Sp.div hn (h0.congr fun c=>by rw[e];grind))
   obtain⟨K1,rfl⟩:∃K1,K'=K1+1:=⟨K'-1,by omega⟩
   have hch:∀k,∃m b:Int,k<K1+1->m≠0∧Sp (RB K W) (fun c=>m*R' k c+b*W K c):=by
    intro k
    by_cases hk:k<K1+1
    ·obtain⟨m,b,hm,hh⟩:=(hs k hk).split;exact⟨m,b,fun _=>⟨hm,hh⟩⟩
    ·exact⟨0,0,fun h=>absurd h hk⟩
   obtain⟨sk,hsk⟩:∃sk:Nat->Nat,sk=fun k=>if k<k0 then k else k+1:=⟨_,rfl⟩
   have sk1:∀k,k<K1->sk k<K1+1∧sk k≠k0:=by
    intro k hk;rw[hsk];simp only[]
    split<;>constructor<;>omega
   have sk2:∀k q,sk k=sk q->k=q:=by
    intro k q e;rw[hsk]at e;simp only[]at e
    split at e<;>split at e<;>omega
   have hch2:∀k,∃V:Vec,k<K1->Sp (RB K W) V∧∃x y:Int,x≠0∧∀c,V c=x*R' (sk k) c+y*R' k0 c:=by
    intro k
    by_cases hk:k<K1
    ·obtain⟨m,b,hmb⟩:=hch (sk k)
     obtain⟨hm,hh⟩:=hmb (sk1 k hk).1
     refine⟨fun c=>a*(m*R' (sk k) c+b*W K c)+(-b)*(n*R' k0 c+a*W K c),fun _=>⟨Sp.lin a (-b) hh h0,a*m,-b*n,Int.mul_ne_zero ha hm,fun c=>by grind⟩⟩
    ·exact⟨fun _=>0,fun h=>absurd h hk⟩
   have hV:=Classical.choose_spec (Classical.axiomOfChoice hch2)
   obtain⟨V,hV⟩:=Classical.axiomOfChoice hch2
   have:K1<=K:=Red.le (K:=K) (J':=fun k=>J' (sk k)) (R':=V) (W:=W) ⟨fun k hk=>by
    obtain⟨_,x,y,hx,e⟩:=hV k hk
    obtain⟨s1,s2⟩:=sk1 k hk
    rw[e,h.off k0 hk0 (sk k) s1 (Ne.symm s2)]
    have:=h.piv (sk k) s1
    intro h9
    exact this (zAV hx (by simpa using h9)),
    fun k hk q hq hne=>by
     obtain⟨_,x,y,hx,e⟩:=hV k hk
     obtain⟨s1,s2⟩:=sk1 k hk
     obtain⟨t1,t2⟩:=sk1 q hq
     rw[e,h.off k0 hk0 (sk q) t1 (Ne.symm t2),h.off (sk k) s1 (sk q) t1 (fun e=>hne (sk2 _ _ e))]
     simp⟩ (fun k hk=>(hV k hk).1)
   omega
theorem Sp.map{B B':Vec->Prop}(f:Vec->Vec)(h0:f (fun _=>0)=fun _=>0)(ha:∀u v,f (fun c=>u c+v c)=fun c=>f u c+f v c)(hm:∀(k:Int) u,f (fun c=>k*u c)=fun c=>k*f u c)
 (hB:∀v,B v->Sp B' (f v)){v:Vec}(h:Sp B v):Sp B' (f v):=by
 induction h with
 |of hb=>exact hB _ hb
 |zero=>rw[h0];exact .zero
 |add _ _ h1 h2=>rw[ha];exact .add h1 h2
 |mul k _ h1=>rw[hm];exact .mul k h1
 |div hk _ h1=>rw[hm]at h1;exact .div hk h1
def zAS(M:List (List Int))(S:List Int):List (List Int):=M.map (fun r=>S.map (fun j=>vec r j.toNat))
def zFT(S:List Int)(v:Vec):Vec:=fun c=>match S[c]? with|some j=>v j.toNat|none=>0
theorem colsF_vec(r:List Int)(S:List Int):vec (S.map (fun j=>vec r j.toNat))=zFT S (vec r):=by
 funext c
 unfold zFT
 show((S.map (fun j=>vec r j.toNat))[c]?).getD 0=_
 rw[List.getElem?_map]
 cases S[c]? <;>rfl
theorem zHN(M:List (List Int))(S:List Int)(q:Nat):rowv (zAS M S) q=zFT S (rowv M q):=by
 unfold rowv zAS
 rw[List.getElem?_map]
 cases M[q]? with
 |none=>funext c;unfold zFT;cases S[c]? <;>simp[vec]
 |some r=>simp only[Option.map_some,Option.getD_some];exact colsF_vec r S
theorem zBK(M:List (List Int))(S:List Int):(zAS M S).length=M.length:=by simp[zAS]
theorem colsF_wid(M:List (List Int))(S:List Int):∀r∈zAS M S,r.length=S.length:=by
 intro r hr
 obtain⟨r',_,rfl⟩:=List.mem_map.1 hr
 simp
theorem colsF_le{M:List (List Int)}(h:∀r∈M,∀c,-1<=vec r c∧vec r c<=1)(S:List Int):∀r∈zAS M S,∀c,-1<=vec r c∧vec r c<=1:=by
 intro r hr c
 obtain⟨r',hr',rfl⟩:=List.mem_map.1 hr
 rw[colsF_vec]
 unfold zFT
 split
 ·exact h r' hr' _
 ·decide
structure MaskOk (M:List (List Int)) (n:Nat):Prop where
 wid:∀r∈M,r.length=n
 le6:M.length<=6
 one:∀r∈M,∀c,-1<=vec r c∧vec r c<=1
theorem MaskOk.cols{M:List (List Int)}{n:Nat}(h:MaskOk M n)(S:List Int):MaskOk (zAS M S) S.length:=
 ⟨colsF_wid M S,by rw[zBK];exact h.le6,colsF_le h.one S⟩
theorem MaskOk.inv{M:List (List Int)}{n:Nat}(h:MaskOk M n)(t:Nat):RInv n M.length (rowv M) t (pRed M t).1 (pRed M t).2:=
 zCK M h.wid t (fun j _ q=>zCC (by decide) (fun r hr=>h.one r hr j) q)
theorem MaskOk.below{M:List (List Int)}{n:Nat}(h:MaskOk M n){q:Nat}(h1:(pRed M n).2.length<=q)(h2:q<M.length)(c:Nat):rowv (pRed M n).1 q c=0:=by
 rcases Nat.lt_or_ge c n with hc|hc
 ·exact(h.inv n).zero q h1 h2 c hc
 ·exact zHD (h.inv n).wid q hc
def zFI(M:List (List Int))(n:Nat):Nat:=(pRed M n).2.length
theorem MaskOk.cols_rank{M:List (List Int)}{n:Nat}(h:MaskOk M n)(S:List Int):zFI (zAS M S) S.length<=zFI M n:=by
 have hc:=h.cols S
 have hi:=hc.inv S.length
 refine Red.le (W:=fun k=>zFT S (rowv (pRed M n).1 k)) hi.ech.red fun k hk=>?_
 have h1:=(hi.span (fun q h1 h2 c=>hc.below h1 (by rw[zBK]at h2⊢;exact h2) c)).1 (RB.sp hk)
 refine h1.trans ?_
 rintro v ⟨q,hq,rfl⟩
 rw[zBK]at hq
 rw[zHN]
 refine Sp.map (zFT S) ?_ ?_ ?_ ?_ (((h.inv n).span (fun q h1 h2 c=>h.below h1 h2 c)).2 (RB.sp hq))
 ·funext c;unfold zFT;split<;>rfl
 ·intro u v;funext c;unfold zFT;split<;>simp
 ·intro k u;funext c;unfold zFT;split<;>simp
 ·rintro v ⟨k,hk,rfl⟩;exact .of ⟨k,hk,rfl⟩
theorem free_len{J:List Nat}{n:Nat}(hn:J.Nodup)(hl:∀x∈J,x<n):(zFJ J n).length+J.length=n:=by
 have h1:((List.range n).filter (fun f=>J.contains f)).length=J.length:=by
  refine(List.Perm.length_eq ?_)
  refine(List.perm_ext_iff_of_nodup ?_ hn).2 fun x=>?_
  ·exact List.Pairwise.filter _ List.nodup_range
  ·simp only[List.mem_filter,List.mem_range,List.contains_iff_mem]
   exact⟨fun h=>h.2,fun h=>⟨hl x h,h⟩⟩
 have h2:=List.length_eq_countP_add_countP (fun f=>J.contains f) (l:=List.range n)
 rw[List.countP_eq_length_filter,List.countP_eq_length_filter,List.length_range,h1]at h2
 have e:(fun f=>decide ¬(J.contains f)=true)=fun f=>!J.contains f:=by funext f;cases J.contains f<;>rfl
 rw[e]at h2
 unfold zFJ
 omega
end
section
def zAX(n:Nat)(S l:List Int)(k:Nat):List Int:=(List.range k).foldl (fun h i=>h.set (S[i]?.getD 0).toNat (l[i]?.getD 0)) (List.replicate n 0)
theorem zDX(n:Nat)(S l:List Int)(k:Nat):zAX n S l (k+1)=(zAX n S l k).set (S[k]?.getD 0).toNat (l[k]?.getD 0):=by
 unfold zAX;rw[List.range_succ,List.foldl_append];rfl
theorem zDE(n:Nat)(S l:List Int):∀k,(zAX n S l k).length=n
 |0=>by simp[zAX]
 |k+1=>by rw[zDX,List.length_set];exact zDE n S l k
theorem zLZ{h:List Int}{c i:Nat}{x:Int}(hc:c<h.length):vec (h.set c x) i=if i=c then x else vec h i:=by
 unfold vec
 by_cases e:i=c
 ·subst e;rw[if_pos rfl,List.getElem?_set_self hc];rfl
 ·rw[if_neg e,List.getElem?_set_ne (Ne.symm e)]
def zCL(n:Nat)(S:List Int):Prop:=S.Pairwise (· < ·)∧∀y∈S,0<=y∧y<(n:Int)
theorem zCL.get{n:Nat}{S:List Int}(h:zCL n S){i:Nat}(hi:i<S.length):0<=S[i]∧S[i]<n:=h.2 _ (List.getElem_mem hi)
theorem zCL.inj{n:Nat}{S:List Int}(h:zCL n S){i j:Nat}(hi:i<S.length)(hj:j<S.length)(e:S[i]=S[j]):i=j:=by
 rcases Nat.lt_trichotomy i j with c|c|c
 ·have:=List.pairwise_iff_getElem.1 h.1 i j hi hj c;omega
 ·exact c
 ·have:=List.pairwise_iff_getElem.1 h.1 j i hj hi c;omega
theorem zDW{n:Nat}{S l:List Int}(h:zCL n S):∀k,k<=S.length->∀i (hi:i<S.length),i<k->vec (zAX n S l k) (S[i]).toNat=l[i]?.getD 0
 |0,_,i,_,h0=>by omega
 |k+1,hk,i,hi,hik=>by
  have hkS:k<S.length:=by omega
  have hS:S[k]?.getD 0=S[k]:=by rw[List.getElem?_eq_getElem hkS];rfl
  have g1:=h.get hkS
  have g2:=h.get hi
  rw[zDX,hS,zLZ (by rw[zDE];omega)]
  by_cases e:i=k
  ·subst e;rw[if_pos rfl]
  ·rw[if_neg (fun c=>e (h.inj hi hkS (by omega)))]
   exact zDW h k (by omega) i hi (by omega)
theorem zFP{n:Nat}{S l:List Int}(h:zCL n S){c:Nat}(hc:(c:Int)∉S):∀k,k<=S.length->vec (zAX n S l k) c=0
 |0,_=>by
  unfold zAX vec
  simp only[List.range_zero,List.foldl_nil,List.getElem?_replicate]
  split<;>rfl
 |k+1,hk=>by
  have hkS:k<S.length:=by omega
  have hS:S[k]?.getD 0=S[k]:=by rw[List.getElem?_eq_getElem hkS];rfl
  have g1:=h.get hkS
  rw[zDX,hS,zLZ (by rw[zDE];omega),if_neg (fun e=>hc (by
   have:(c:Int)=S[k]:=by omega
   rw[this];exact List.getElem_mem hkS))]
  exact zFP h hc k (by omega)
def zCI:List Int->Int
 | []=>0
 |x::l=>if x=0 then zCI l else x
def zNN(h:List Int):List Int:=if zCI (zBW h)<0 then negF (zBW h)else zBW h
def zIX(M:List (List Int))(S:List Int):List (List Int):=zMX (pRed (zAS M S) S.length).1 (pRed (zAS M S) S.length).2 S.length
def kerSR(M:List (List Int))(S:List Int):List (List Int):=kernR (rRed (zAS M S) S.length).done (rRed (zAS M S) S.length).piv S.length
def zGI(M:List (List Int))(n:Nat)(S:List Int):Option (List Int):=
 match zIX M S with
 | [l]=>if l.contains 0 then none else some (zNN (zAX n S l S.length))
 |_=>none
theorem kerS_same{M:List (List Int)}{n:Nat}(h:MaskOk M n)(S:List Int):zIX M S=kerSR M S:=by
 unfold zIX kerSR
 have hc:=h.cols S
 exact kernel_same hc.wid hc.le6 (fun r hr c _=>hc.one r hr c)
theorem kerSR_len{M:List (List Int)}{S l:List Int}(h:l∈kerSR M S):l.length=S.length:=by
 unfold kerSR kernR at h
 obtain⟨f,_,rfl⟩:=List.mem_map.1 h
 unfold kerR rawR
 rw[zHF,zDH,zEW];simp
def circP(M:List (List Int))(n:Nat):List (List Int):=(List.range (min (zFI M n+1) n)).flatMap fun k=>(comb n (k+1) 0).filterMap (zGI M n)
theorem comb_ok{n k:Nat}{S:List Int}(h:S∈comb n k 0):zCL n S:=by
 obtain⟨h1,h2⟩:=zJI n k 0 S h
 exact⟨h1,fun y hy=>by have:=h2 y hy;omega⟩
theorem rank_le{M:List (List Int)}{n:Nat}(h:MaskOk M n):zFI M n<=M.length:=(h.inv n).K_le
theorem kerSP_len{M:List (List Int)}{n:Nat}(h:MaskOk M n)(S:List Int):(zIX M S).length+zFI (zAS M S) S.length=S.length:=by
 unfold zIX zMX zFI
 rw[List.length_map]
 have hi:=(h.cols S).inv S.length
 exact free_len (hi.asc.imp (fun h=>by omega)) hi.lt
theorem circ1_many{M:List (List Int)}{n:Nat}(h:MaskOk M n){S:List Int}(hS:zFI M n+1<S.length):zGI M n S=none:=by
 unfold zGI
 have h1:=kerSP_len h S
 have h2:=h.cols_rank S
 split
 ·rename_i l hl
  rw[hl]at h1
  simp at h1
  omega
 ·rfl
end
section
def ofF(n d:Int):Int×Int:=
 let g:Int:=(Int.gcd n d:Nat)
 if d<0 then(n.tdiv (-g),d.tdiv (-g))else(n.tdiv g,d.tdiv g)
def zAR(n d:Int):Int×Int:=(n.tdiv (Int.gcd n d:Nat),d.tdiv (Int.gcd n d:Nat))
theorem zMP{n d:Int}(h:0<d):ofF n d=zAR n d:=by unfold ofF zAR;simp only[];rw[if_neg (by omega)]
def zAK(R:List (List Int))(y:List Int):List (List Int):=List.zipWith (fun r v=>r++[v]) R y
theorem zDV{R:List (List Int)}{y:List Int}(h:y.length=R.length):(zAK R y).length=R.length:=by simp[zAK,h]
theorem zLY{R:List (List Int)}{y:List Int}{r:List Int}(h:r∈zAK R y):∃r'∈R,∃v∈y,r=r'++[v]:=by
 unfold zAK at h
 obtain⟨i,hi,rfl⟩:=List.mem_iff_getElem.1 h
 rw[List.getElem_zipWith]
 simp at hi
 exact⟨_,List.getElem_mem (by omega),_,List.getElem_mem (by omega),rfl⟩
theorem vec_snoc_lt{r:List Int}{v:Int}{c:Nat}(h:c<r.length):vec (r++[v]) c=vec r c:=by
 unfold vec;rw[List.getElem?_append_left h]
structure MaskY (R:List (List Int)) (n:Nat) (Y:Nat):Prop where
 wid:∀r∈R,r.length=n+1
 le6:R.length<=6
 one:∀r∈R,∀c,c<n-> -1<=vec r c∧vec r c<=1
 all:∀r∈R,∀x∈r,-(Y:Int)<=x∧x<=Y
theorem MaskOk.addY{M:List (List Int)}{n:Nat}(h:MaskOk M n){y:List Int}(hy:y.length=M.length){Y:Nat}(hY1:1<=Y)(hY:∀v∈y,-(Y:Int)<=v∧v<=Y):MaskY (zAK M y) n Y:=by
 refine⟨fun r hr=>?_,by rw[zDV hy];exact h.le6,fun r hr c hc=>?_,fun r hr x hx=>?_⟩
 ·obtain⟨r',h1,v,_,rfl⟩:=zLY hr
  simp[h.wid r' h1]
 ·obtain⟨r',h1,v,_,rfl⟩:=zLY hr
  rw[vec_snoc_lt (by rw[h.wid r' h1];exact hc)];exact h.one r' h1 c
 ·obtain⟨r',h1,v,h2,rfl⟩:=zLY hr
  rcases List.mem_append.1 hx with hx|hx
  ·obtain⟨c,hc,rfl⟩:=List.mem_iff_getElem.1 hx
   have:=h.one r' h1 c
   rw[zCY hc]at this;omega
  ·simp at hx;subst hx;exact hY _ h2
def zAY(R:List (List Int))(n:Nat):List (Int×Int)×Int:=
 let s:=pRed R n
 if (s.1.drop s.2.length).any (nz n)then([],8)
 else if s.2.length<n then([],11)
 else((List.range n).map fun k=>ofF (vec (s.1[k]?.getD []) n) (vec (s.1[k]?.getD []) (jf s.2 k)),0)
def zBP(R:List (List Int))(n:Nat):List (Int×Int)×Int×Bool:=
 let s:=rRed R (n+1)
 if n∈s.piv then([],0,false)
 else((List.range s.piv.length).foldl (fun out i=>out.set (jf s.piv i) (zAR (vec (s.done[i]?.getD []) n) (vec (s.done[i]?.getD []) (jf s.piv i)))) (List.replicate n (0,1)),(n:Int)-s.piv.length,true)
def zNV(R:List (List Int))(n:Nat):List (Int×Int)×Int:=
 let s:=zBP R n
 if s.2.2=false then([],8)else if 0<s.2.1 then([],11)else(s.1,0)
theorem zOQ:∀{J:List Nat} {a b:Nat},J.Pairwise (· < ·)->(∀x∈J,a<=x∧x<b)->J.length<=b-a
 | [],a,b,_,_=>Nat.zero_le _
 |x::J,a,b,hp,hb=>by
  rw[List.pairwise_cons]at hp
  have hx:=hb x (by simp)
  have:=zOQ (a:=x+1) (b:=b) hp.2 (fun y hy=>by have:=hp.1 y hy;have:=hb y (by simp[hy]);omega)
  simp only[List.length_cons];omega
theorem zLT:∀{J:List Nat} {a n:Nat},J.Pairwise (· < ·)->(∀x∈J,a<=x∧x<a+n)->J.length=n->J=List.range' a n
 | [],a,n,_,_,h=>by simp at h;subst h;rfl
 |x::J,a,0,_,_,h=>by simp at h
 |x::J,a,n+1,hp,hb,h=>by
  rw[List.pairwise_cons]at hp
  have hx:=hb x (by simp)
  have hlen:J.length=n:=by simpa using h
  -- all others lie above x
  have hxa:x=a:=by
   rcases Nat.lt_or_ge a x with c|c
   ·exfalso
    have h2:=zOQ (a:=a+1) (b:=a+(n+1)) (List.pairwise_cons.2 hp) (fun y hy=>by
     have:=hb y hy
     rcases List.mem_cons.1 hy with rfl|hy'
     ·omega
     ·have:=hp.1 y hy';omega)
    simp at h2;omega
   ·omega
  subst hxa
  rw[List.range'_succ]
  congr 1
  exact zLT hp.2 (fun y hy=>by have:=hp.1 y hy;have:=hb y (by simp[hy]);omega) hlen
theorem zNU{R:List (List Int)}{n Y:Nat}(h:MaskY R n Y):zAY R n=zNV R n:=by
 have hi:=zCK R h.wid n (fun j hj q=>zCC (by decide) (fun r hr=>h.one r hr j hj) q)
 have hl:=zFC R n
 unfold zAY zNV zBP
 simp only[]
 by_cases c:((pRed R n).1.drop (pRed R n).2.length).any (nz n)=true
 ·rw[if_pos c]
  obtain⟨r,hr,hz⟩:=List.any_eq_true.1 c
  obtain⟨i,hilt,rfl⟩:=List.mem_iff_getElem.1 hr
  rw[List.getElem_drop]at hz
  have hmem:=red_more (m:=n+1) h.wid h.one (Nat.le_refl _) (q:=(pRed R n).2.length+i) (by omega) (by rw[List.length_drop]at hilt;omega) (by
   rw[zGA (by rw[List.length_drop]at hilt;omega)];simpa[nz]using hz)
  rw[if_pos hmem];simp
 ·rw[if_neg c]
  have h0:∀q,(pRed R n).2.length<=q->q<R.length->∀x,n<=x->x<n+1->rowv (pRed R n).1 q x=0:=by
   intro q h1 h2 x hx1 hx2
   obtain rfl:x=n:=by omega
   rw[zGA (by omega)]
   have hm:(pRed R x).1[q]'(by omega)∈(pRed R x).1.drop (pRed R x).2.length:=by
    rw[List.mem_drop_iff_getElem];exact⟨q-(pRed R x).2.length,by omega,by congr 1;omega⟩
   rcases Classical.em (vec ((pRed R x).1[q]'(by omega)) x=0)with e|e
   ·exact e
   ·exact absurd (List.any_eq_true.2 ⟨_,hm,by simpa[nz]using e⟩) c
  obtain⟨e1,e2⟩:=zOX (m:=n+1) h.wid h.one (Nat.le_refl _) h0
  rw[e2,<- e1]
  have hnm:n∉(pRed R n).2:=fun hm=>by have:=hi.lt _ hm;omega
  rw[if_neg hnm]
  simp only[Bool.true_eq_false,if_false]
  have hKn:(pRed R n).2.length<=n:=by
   have:=zOQ (a:=0) (b:=n) hi.asc (fun x hx=>⟨Nat.zero_le _,hi.lt x hx⟩)
   omega
  by_cases c2:(pRed R n).2.length<n
  ·rw[if_pos c2,if_pos (by omega)]
  ·rw[if_neg c2,if_neg (by omega)]
   have hK:(pRed R n).2.length=n:=by omega
   have hJ:=zLT (a:=0) hi.asc (fun x hx=>⟨Nat.zero_le _,by have:=hi.lt x hx;omega⟩) hK
   have hjf:∀k,k<n->jf (pRed R n).2 k=k:=by
    intro k hk
    unfold jf
    rw[hJ,List.getElem?_range' hk];simp
   congr 1
   rw[hK]
   -- the places filled one after the other
   have key:∀t,t<=n->(List.range t).foldl (fun(out:List (Int×Int)) i=>out.set (jf (pRed R n).2 i) (zAR (vec (((pRed R n).1.take n)[i]?.getD []) n) (vec (((pRed R n).1.take n)[i]?.getD []) (jf (pRed R n).2 i)))) (List.replicate n (0,1))=
    (List.range t).map (fun k=>ofF (vec ((pRed R n).1[k]?.getD []) n) (vec ((pRed R n).1[k]?.getD []) (jf (pRed R n).2 k)))++List.replicate (n-t) (0,1):=by
    intro t
    induction t with
    |zero=>intro _;simp
    |succ t ih=>
     intro ht
     rw[List.range_succ,List.foldl_append,ih (by omega),List.map_append]
     simp only[List.foldl_cons,List.foldl_nil,List.map_cons,List.map_nil]
     rw[hjf t (by omega),List.getElem?_take_of_lt (by omega)]
     have hpos:=(hi.pp t (by omega)).2
     rw[hjf t (by omega)]at hpos
     rw[zMP (show 0<vec ((pRed R n).1[t]?.getD []) t from hpos)]
     rw[show n-t=(n-(t+1))+1 by omega,List.replicate_succ,List.set_append_right _ _ (by simp)]
     simp
   have:=key n (Nat.le_refl _)
   rw[Nat.sub_self]at this
   simp only[List.replicate_zero,List.append_nil]at this
   rw[this]
end
section
def dotS(u v:Vec)(n:Nat):Int:=sm (fun c=>u c*v c) n
theorem zPQ{B:Vec->Prop}{h:Vec}{n:Nat}(hB:∀u,B u->dotS u h n=0){v:Vec}(hv:Sp B v):dotS v h n=0:=by
 unfold dotS at*
 induction hv with
 |of hb=>exact hB _ hb
 |zero=>rw[zAL (g:=fun _=>0) (fun k _=>by simp),zFH]
 | @add u v _ _ h1 h2=>rw[zAL (g:=fun c=>u c*h c+v c*h c) (fun k _=>by grind),zHP,h1,h2];rfl
 | @mul k u _ h1=>rw[zAL (g:=fun c=>k*(u c*h c)) (fun k _=>by grind),zCZ,h1];simp
 | @div k u hk _ h1=>
   rw[zAL (g:=fun c=>k*(u c*h c)) (fun k _=>by grind),zCZ]at h1
   exact zAV hk h1
abbrev RP(M:List (List Int))(n:Nat):List (List Int):=(pRed M n).1
abbrev JP(M:List (List Int))(n:Nat):List Nat:=(pRed M n).2
theorem MaskOk.rp_le{M:List (List Int)}{n:Nat}(h:MaskOk M n)(k c:Nat): -720<=vec ((RP M n)[k]?.getD []) c∧vec ((RP M n)[k]?.getD []) c<=720:=by
 cases hk:(RP M n)[k]? with
 |none=>simp[vec]
 |some r=>
  have:=(pRed_le (n:=n) (Y:=1) h.wid h.le6 (fun r hr c _=>h.one r hr c) (fun r hr=>zKC (P:=fun x=> -((1:Nat):Int)<=x∧x<=((1:Nat):Int)) fun c=>by have:=h.one r hr c;omega) (Nat.le_refl n) r (List.mem_of_getElem? hk)).2
  have h2:=vec_le (Y:=720) (by decide) (fun x hx=>by have:=this x hx;omega) c
  simpa using h2
theorem MaskOk.span{M:List (List Int)}{n:Nat}(h:MaskOk M n){v:Vec}:Sp (RB (JP M n).length (rowv (RP M n))) v↔Sp (RB M.length (rowv M)) v:=
 (h.inv n).span (fun q h1 h2 c=>h.below h1 h2 c)
def zEC(M:List (List Int))(n:Nat)(v:Vec):Prop:=∀q,q<M.length->dotS (rowv M q) v n=0
theorem MaskOk.ker_iff{M:List (List Int)}{n:Nat}(h:MaskOk M n){v:Vec}:zEC M n v↔∀k,k<(JP M n).length->dotS (rowv (RP M n) k) v n=0:=by
 constructor
 ·intro hk k hlt
  exact zPQ (B:=RB M.length (rowv M)) (fun u ⟨q,hq,e⟩=>e▸hk q hq) (h.span.1 (RB.sp hlt))
 ·intro hk q hq
  exact zPQ (B:=RB (JP M n).length (rowv (RP M n))) (fun u ⟨k,hlt,e⟩=>e▸hk k hlt) (h.span.2 (RB.sp hq))
theorem MaskOk.dot_row{M:List (List Int)}{n:Nat}(h:MaskOk M n)(v:Vec){k:Nat}(hk:k<(JP M n).length):
 dotS (rowv (RP M n) k) v n=rowv (RP M n) k (jf (JP M n) k)*v (jf (JP M n) k)+sm (fun c=>if c∈JP M n then 0 else rowv (RP M n) k c*v c) n:=by
 have hi:=h.inv n
 have hjl:=hi.lt _ (jf_mem hk)
 unfold dotS
 rw[zAL (g:=fun c=>(if c=jf (JP M n) k then rowv (RP M n) k c*v c else 0)+(if c∈JP M n then 0 else rowv (RP M n) k c*v c)) (fun c _=>?_),zHP,zDZ hjl (fun c _ hne=>if_neg hne),if_pos rfl]
 by_cases hc:c∈JP M n
 ·obtain⟨i,hlt,rfl⟩:=mem_jf hc
  rw[if_pos hc]
  by_cases e:i=k
  ·subst e;simp
  ·rw[hi.ech.red.off k hk i hlt (Ne.symm e)];simp
 ·rw[if_neg hc,if_neg (fun e:c=jf (JP M n) k=>hc (by rw[e];exact jf_mem hk))];simp
theorem MaskOk.raw{M:List (List Int)}{n:Nat}(h:MaskOk M n){f:Nat}(hf:f<n)(hfJ:f∉JP M n):
 ∃t:Int,0<t∧t<=720∧vec (rawP (RP M n) (JP M n) n f) f=t∧(∀c,c∉JP M n->c≠f->vec (rawP (RP M n) (JP M n) n f) c=0)∧
  ∀i,i<(JP M n).length->vec (rawP (RP M n) (JP M n) n f) (jf (JP M n) i)*rowv (RP M n) i (jf (JP M n) i)= -(rowv (RP M n) i f)*t:=by
 obtain⟨d,d1,d2,hk⟩:=pRed_ok (n:=n) h.wid h.le6 (fun r hr c _=>h.one r hr c)
 obtain⟨a1,a2,a3,a4,a5⟩:=rawP_vals hk hf hfJ
 refine⟨zFN (RP M n) f (JP M n) 0 1,a1,?_,by rw[a4 f hfJ,if_pos rfl],fun c hc hne=>by rw[a4 c hc,if_neg hne],a5⟩
 have h9:=Int.le_of_dvd (by omega) a2
 have h8:zFN (RP M n) f (JP M n) 0 1<=(d:Int):=h9
 omega
theorem MaskOk.raw_ker{M:List (List Int)}{n:Nat}(h:MaskOk M n){f:Nat}(hf:f<n)(hfJ:f∉JP M n):zEC M n (vec (rawP (RP M n) (JP M n) n f)):=by
 obtain⟨t,ht,_,h1,h2,h3⟩:=h.raw hf hfJ
 rw[h.ker_iff]
 intro k hk
 rw[h.dot_row _ hk]
 have:sm (fun c=>if c∈JP M n then 0 else rowv (RP M n) k c*vec (rawP (RP M n) (JP M n) n f) c) n=rowv (RP M n) k f*t:=by
  rw[zDZ hf (fun c _ hne=>?_),if_neg hfJ,h1]
  by_cases hc:c∈JP M n
  ·rw[if_pos hc]
  ·rw[if_neg hc,h2 c hc hne];simp
 rw[this]
 have:=h3 k hk
 grind
theorem zEC.short{M:List (List Int)}{n:Nat}{l:List Int}(h:zEC M n (vec l)):zEC M n (vec (zBW l)):=by
 obtain⟨g,hg,e⟩:=zCB l
 intro q hq
 have:=h q hq
 unfold dotS at*
 rw[zAL (g:=fun c=>g*(rowv M q c*vec (zBW l) c)) (fun c _=>by rw[<- e c];grind),zCZ]at this
 exact zAV (g:=g) (by omega) this
theorem shortF_le(l:List Int)(c:Nat):(vec (zBW l) c).natAbs<=(vec l c).natAbs:=by
 obtain⟨g,hg,e⟩:=zCB l
 rw[<- e c,Int.natAbs_mul]
 exact Nat.le_mul_of_pos_left _ (by omega)
theorem MaskOk.kern{M:List (List Int)}{n:Nat}(h:MaskOk M n){l:List Int}(hl:l∈zMX (RP M n) (JP M n) n):
 zEC M n (vec l)∧l.length=n∧(∀c,(vec l c).natAbs<=518400)∧∃f,f<n∧0<vec l f:=by
 unfold zMX at hl
 obtain⟨f,hf,rfl⟩:=List.mem_map.1 hl
 obtain⟨hf1,hf2⟩:=List.mem_filter.1 hf
 have hfn:f<n:=by simpa using hf1
 have hfJ:f∉JP M n:=by simpa using hf2
 obtain⟨t,ht,ht2,h1,h2,h3⟩:=h.raw hfn hfJ
 refine⟨(h.raw_ker hfn hfJ).short,by unfold kerP rawP;rw[zDH,zEW];simp,fun c=>?_,f,hfn,short_pos (by rw[h1];exact ht)⟩
 refine Nat.le_trans (shortF_le _ c) ?_
 by_cases hc:c∈JP M n
 ·obtain⟨i,hi,rfl⟩:=mem_jf hc
  have e:=h3 i hi
  have hp:0<rowv (RP M n) i (jf (JP M n) i):=((h.inv n).pp i hi).2
  have hb:=h.rp_le i f
  have e2:=congrArg Int.natAbs e
  rw[Int.natAbs_mul,Int.natAbs_mul,Int.natAbs_neg]at e2
  have h5:(vec (rawP (RP M n) (JP M n) n f) (jf (JP M n) i)).natAbs<=(rowv (RP M n) i f).natAbs*t.natAbs:=by
   rw[<- e2];exact Nat.le_mul_of_pos_right _ (by omega)
  refine Nat.le_trans h5 ?_
  show _<=720*720
  exact Nat.mul_le_mul (by unfold rowv;omega) (by omega)
 ·by_cases e:c=f
  ·subst e;rw[h1];omega
  ·rw[h2 c hc e];simp
theorem MaskOk.ker_one{M:List (List Int)}{n:Nat}(h:MaskOk M n){f:Nat}(hf:zFJ (JP M n) n=[f]){v:Vec}(hv:zEC M n v){c:Nat}(hc:c<n):
 v c*vec (rawP (RP M n) (JP M n) n f) f=vec (rawP (RP M n) (JP M n) n f) c*v f:=by
 have hfm:f∈zFJ (JP M n) n:=by rw[hf];simp
 obtain⟨hf1,hf2⟩:=List.mem_filter.1 hfm
 have hfn:f<n:=by simpa using hf1
 have hfJ:f∉JP M n:=by simpa using hf2
 obtain⟨t,ht,ht2,h1,h2,h3⟩:=h.raw hfn hfJ
 have only:∀c,c<n->c∉JP M n->c=f:=fun c hc hcJ=>by
  have:c∈zFJ (JP M n) n:=List.mem_filter.2 ⟨by simpa using hc,by simpa using hcJ⟩
  rw[hf]at this;simpa using this
 rw[h1]
 by_cases hcJ:c∈JP M n
 ·obtain⟨i,hi,rfl⟩:=mem_jf hcJ
  have hk:=h.ker_iff.1 hv i hi
  rw[h.dot_row _ hi,zDZ hfn (fun c hc hne=>by
   by_cases e:c∈JP M n
   ·rw[if_pos e]
   ·exact absurd (only c hc e) hne),if_neg hfJ]at hk
  have hp:0<rowv (RP M n) i (jf (JP M n) i):=((h.inv n).pp i hi).2
  have e:=h3 i hi
  refine Int.eq_of_mul_eq_mul_right (show rowv (RP M n) i (jf (JP M n) i)≠0 by omega) ?_
  have e1:rowv (RP M n) i (jf (JP M n) i)*v (jf (JP M n) i)= -(rowv (RP M n) i f*v f):=by omega
  calc v (jf (JP M n) i)*t*rowv (RP M n) i (jf (JP M n) i)=(rowv (RP M n) i (jf (JP M n) i)*v (jf (JP M n) i))*t:=by grind
   _= -(rowv (RP M n) i f*v f)*t:=by rw[e1]
   _=(-(rowv (RP M n) i f)*t)*v f:=by grind
   _=_:=by rw[<- e];grind
 ·have:=only c hc hcJ
  subst this
  rw[h1];exact Int.mul_comm _ _
end
section
theorem MaskOk.rank_ker{M:List (List Int)}{n:Nat}(h:MaskOk M n):zFI M n+(zMX (RP M n) (JP M n) n).length=n:=by
 obtain⟨d,d1,d2,hk⟩:=pRed_ok (n:=n) h.wid h.le6 (fun r hr c _=>h.one r hr c)
 unfold zMX
 rw[List.length_map]
 have:=free_len hk.nodup hk.lt
 rw[Nat.add_comm]
 exact this
end
end
section
open Go.RowKit
def allI(n:Nat):List Int:=(List.range n).map (fun j:Nat=>(j:Int))
theorem allI_len(n:Nat):(allI n).length=n:=by simp[allI]
theorem allI_succ(n:Nat):allI (n+1)=allI n++[(n:Int)]:=by unfold allI;rw[List.range_succ,List.map_append];rfl
theorem all_c(w:World)(n:Nat)(hn:n<=1000):
 Calls Tryz.prog 194 #[.int .i64 n] w fun e w'=>∃v,e=.returned v∧w'.ownsRow w.heap.size 3 1 v n ((allI n).map (Value.int .i64))∧Below w.heap.size w w':=by
 go_enter Tryz.func194,Tryz.ntmps194
 go_wp2
 go_loopw [3,6] (fun v i wr=>∃k:Nat,k<=n∧i=.int .i64 k∧wr.ownsRow w.heap.size 3 1 v k ((allI k).map (Value.int .i64))∧Below w.heap.size w wr) (fun _ i _=>n-(intOf i).toNat)
 case atStart=>exact⟨0,Nat.zero_le _,rfl,World.ownsRow_nil _ _ _ _,Below.refl _ _⟩
 case round=>
  obtain⟨k,hk,rfl,hown,hbk⟩:=hrel
  by_cases hlt:k<n
  ·obtain⟨va,vc,rfl⟩:=zAD hown
   have HO:=hid hown
   have M1:=hid (show k+1<=maxLen by unfold maxLen;omega)
   have M2:=hid (show(k+1)*8<=140737488355328 by omega)
   have M3:=hid (Nat.le_trans hbk.size (zCH wr (.cells #[.int .i64 (k:Int)] 3)))
   clear hown
   go_wp2_with (at_builtin;refine zAQ _ rfl (.tmp 9) (.tmp 11) 24 rfl w.heap.size 3 (.int .i64 0) 1 8 Tryz.underlying24 zEF rfl Nat.one_pos (.slice va k vc) k _ rfl (HO.out.alloc _) (some ⟨wr.heap.size,0,none⟩) 1 1 [.int .i64 (k:Int)] rfl rfl zCD (zBT wr _ _) (zEE _) M1.out M2.out M3.out ?_;refine Stop.of ?_)
   refine Stop.go ?_
   intro a3 c3 w3 own3 g3
   have hB3:Below w.heap.size w w3:=(hbk.alloc hbk.size _).grown g3 M3.out (fun k hk=>(HO.out.lt k hk).1)
   go_wp2
   refine⟨⟨k+1,by omega,by go_num,?_,hB3⟩,by simp[intOf];omega⟩
   rw[allI_succ]
   simpa using own3
  ·obtain rfl:k=n:=by omega
   go_wp2
   go_ret
   exact⟨_,rfl,hown,hbk⟩
def MoreP(P:Program)(g:Nat)(lb:Array Value)(w:World)(N:Nat)(mo:Nat->List Int):Prop:=
 ∀(i:Nat) (W:World),i<N->Below w.heap.size w W->Calls P g (#[.int .i64 i]++lb) W fun e W'=>∃a c,e=.returned (.slice a (mo i).length c)∧zAI W' a (mo i)∧Below W.heap.size W W'
def zFA(M:List (List Int))(S:List Int)(mo:Nat->List Int):List (List Int):=M.mapIdx (fun i r=>S.map (fun j=>vec r j.toNat)++mo i)
theorem zHZ(M:List (List Int))(S:List Int)(mo:Nat->List Int):(zFA M S mo).length=M.length:=by simp[zFA]
theorem zLD{M:List (List Int)}{S:List Int}{mo:Nat->List Int}{k:Nat}(hk:k<M.length):(zFA M S mo).take (k+1)=(zFA M S mo).take k++[S.map (fun j=>vec M[k] j.toNat)++mo k]:=by
 rw[List.take_succ_eq_append_getElem (by rw[zHZ];exact hk)]
 simp[zFA]
theorem zLO(l:List Int):∀u∈l.map (Value.int .i64),u.oneCell'=true:=by intro u hu;obtain⟨x,_,rfl⟩:=List.mem_map.1 hu;rfl
theorem chosen_c(w:World)(a:Option Addr)(n cap:Nat)(M:List (List Int))(hn:M.length=n)(hn6:n<=1000)(H:zAN w a M)(a2:Option Addr)(k2 cap2:Nat)(S:List Int)(hk2:S.length=k2)(hk21:k2<=1000)(H2:zAI w a2 S)
 (hS:∀r∈M,∀j∈S,0<=j∧j<r.length)(g:Nat)(lb:Array Value)(eg:∀args w,(callFunc g args).run Tryz.prog w=.ok (.enter g args) w)(mo:Nat->List Int)(hmo:MoreP Tryz.prog g lb w n mo)(hml:∀i,i<n->(mo i).length<=1000∧1<=k2+(mo i).length):
 Calls Tryz.prog 220 #[.slice a n cap,.slice a2 k2 cap2,.func (.func g) #[] lb] w fun e w'=>∃v,e=.returned v∧OwnM w' w.heap.size v (zFA M S mo)∧Below w.heap.size w w':=by
 have HN:=hid hn
 have HH:=hid H
 have HK2:=hid hk2
 have HH2:=hid H2
 have HS:=hid hS
 have HMO:=hid hmo
 have HML:=hid hml
 have HCT:=hid (fun(k:Nat) (hk:k<M.length)=>zLD (M:=M) (S:=S) (mo:=mo) hk)
 have HCL:=hid (zHZ M S mo)
 obtain⟨C,hC⟩:=exq (zFA M S mo)
 rw[<- hC]at HCT HCL⊢
 clear hn H hk2 H2 hS hmo hml hC
 go_enter Tryz.func220,Tryz.ntmps220
 go_wp2
 go_loopw [7,15] (fun v i wr=>∃k:Nat,k<=n∧i=.int .i64 k∧OwnM wr w.heap.size v (C.take k)∧Below w.heap.size w wr) (fun _ i _=>n-(intOf i).toNat)
 case atStart=>exact⟨0,Nat.zero_le _,rfl,OwnM.nil _ _,Below.refl _ _⟩
 case round=>
  obtain⟨k,hk,rfl,ho,hbk⟩:=hrel
  obtain⟨wo,hwo⟩:=exq (wr)
  subst hwo
  by_cases hlt:k<n
  ·have hkM:k<M.length:=by rw[HN.out];exact hlt
   obtain⟨b,off,ra,rn,rc,rfl,hbs,hq0,hrn,hrm,hri⟩:=(HH.out.below hbk) k hkM
   have htk:=HCT.out k hkM
   have hsr:=HS.out M[k] (List.getElem_mem hkM)
   obtain⟨r,hr⟩:=exq (M[k])
   rw[<- hr]at htk hsr hrn hri
   have hlen:(C.take k).length=k:=by rw[List.length_take,HCL.out];omega
   have HL:=hid hlen
   have HTK:=hid htk
   have HSR:=hid hsr
   have HRN:=hid hrn
   have HRI:=hid hri
   have HO:=hid ho
   have HBK:=hid hbk
   obtain⟨va,vc,hv⟩:∃va vc,u7=.slice va k vc:=by
    obtain⟨_,_,ho1,_⟩:=ho
    obtain⟨a',c',e⟩:=zAD ho1
    exact⟨a',c',by rw[e,hlen]⟩
   subst hv
   clear hr htk hsr hrn hri hkM ho hlen
   go_wp2
   go_loopw [10,22] (fun v i wr=>∃t:Nat,t<=k2∧i=.int .i64 t∧wr.ownsRow wo.heap.size 3 1 v t (((S.take t).map (fun j=>vec r j.toNat)).map (Value.int .i64))∧Below wo.heap.size wo wr) (fun _ i _=>k2-(intOf i).toNat)
   case atStart=>exact⟨0,Nat.zero_le _,rfl,World.ownsRow_nil _ _ _ _,Below.refl _ _⟩
   case round=>
    obtain⟨t,ht,rfl,hown,hbt⟩:=hrel
    by_cases hlt2:t<k2
    ·have htS:t<S.length:=by rw[HK2.out];exact hlt2
     obtain⟨b2,off2,rfl,hbs2,hc2⟩:=(HH2.out.below (zAA HBK.out hbt)) t htS
     have hpp:=HSR.out S[t] (List.getElem_mem htS)
     have hg2:S[t]?.getD 0=S[t]:=by rw[List.getElem?_eq_getElem htS];rfl
     rw[hg2]at hc2
     have htk2:(S.take (t+1)).map (fun j=>vec r j.toNat)=(S.take t).map (fun j=>vec r j.toNat)++[vec r (S[t]).toNat]:=by
      rw[List.take_succ_eq_append_getElem htS,List.map_append];rfl
     obtain⟨q,hq⟩:∃q:Nat,S[t]=q:=⟨(S[t]).toNat,by omega⟩
     rw[hq]at hc2 hpp htk2
     rw[show((q:Int)).toNat=q by omega]at htk2
     have hqr:q<r.length:=by omega
     obtain⟨b3,off3,rfl,hbs3,hc3⟩:=(HRI.out.below hbt) q hqr
     have hqn:(q:Int)<(rn:Int):=by have:=HRN.out;omega
     have hq0':(0:Int)<=(q:Int):=by omega
     obtain⟨x,hx⟩:=exq (r[q]?.getD 0)
     have hxv:vec r q=x:=hx.symm
     rw[<- hx]at hc3
     rw[hxv]at htk2
     obtain⟨la,lc,rfl⟩:=zAD hown
     have HTK2:=hid htk2
     have HOW:=hid hown
     have M1:=hid (show t+1<=maxLen by unfold maxLen;omega)
     have M2:=hid (show(t+1)*8<=140737488355328 by omega)
     have M3:=hid (Nat.le_trans hbt.size (zCH wr (.cells #[.int .i64 x] 3)))
     clear hpp hg2 htk2 hq hx hxv hown htS hqr
     go_wp2_with (at_builtin;refine zAQ _ rfl (.tmp 26) (.tmp 31) 24 rfl wo.heap.size 3 (.int .i64 0) 1 8 Tryz.underlying24 zEF rfl Nat.one_pos (.slice la t lc) t _ rfl (HOW.out.alloc _) (some ⟨wr.heap.size,0,none⟩) 1 1 [.int .i64 x] rfl rfl zCD (zBT wr _ _) (zEE _) M1.out M2.out M3.out ?_;refine Stop.of ?_)
     refine Stop.go ?_
     intro a3 c3 w3 own3 g3
     have hB3:Below wo.heap.size wo w3:=(hbt.alloc hbt.size _).grown g3 M3.out (fun k hk=>(HOW.out.lt k hk).1)
     go_wp2
     refine⟨⟨t+1,by omega,by go_num,?_,hB3⟩,by simp[intOf];omega⟩
     rw[HTK2.out]
     simpa using own3
    ·obtain rfl:t=k2:=by omega
     rw[List.take_of_length_le (by rw[HK2.out];exact Nat.le_refl _)]at hown
     obtain⟨la,lc,rfl⟩:=zAD hown
     have HMK:=hid (HMO.out k wr hlt (zAA HBK.out hbt))
     have HOW:=hid hown
     have hml:=HML.out k hlt
     obtain⟨m,hm⟩:=exq (mo k)
     rw[<- hm]at hml HMK HTK
     obtain⟨ml,hmle⟩:=exq (m.length)
     rw[<- hmle]at hml HMK
     have HME:=hid hmle
     obtain⟨hml1,hml2⟩:=hml
     clear hown hm hmle
     go_wp2_with (refine HMK.out.mono ?_;rintro e w2 ⟨ma,mc,rfl,hmi,hb2⟩;refine Stop.of ?_)
     refine Stop.go ?_
     have HO2:=hid (zBI HOW.out hb2)
     have HMI:=hid hmi
     have HB2:=hid (zAA hbt hb2)
     have N1:=hid (show t+ml<=maxLen by unfold maxLen;omega)
     have N2:=hid (show(t+ml)*8<=140737488355328 by omega)
     have N3:=hid (show wo.heap.size<=w2.heap.size from HB2.out.size)
     have N4:=hid (show(m.map (Value.int .i64)).length=ml*1 by rw[List.length_map,HME.out];omega)
     have N5:=hid (show ma=none->ml=0 from fun h=>by rw[HME.out];exact ints_none hmi h)
     have N6:=hid (ints_news hmi)
     clear hmi hb2 hbt
     go_wp2_with (at_builtin;refine zAQ _ rfl (.tmp 35) (.tmp 38) 24 rfl wo.heap.size 3 (.int .i64 0) 1 8 Tryz.underlying24 zEF rfl Nat.one_pos (.slice la t lc) t _ rfl HO2.out ma ml mc (m.map (Value.int .i64)) rfl N4.out N5.out N6.out (zLO _) N1.out N2.out N3.out ?_;refine Stop.of ?_)
     refine Stop.go ?_
     intro a3 c3 w3 own3 g3
     have hB3:Below wo.heap.size wo w3:=HB2.out.grown g3 N3.out (fun k hk=>(HO2.out.lt k hk).1)
     rw[<- List.map_map,<- List.map_append]at own3
     obtain⟨X,hX⟩:=exq (S.map (fun j=>vec r j.toNat)++m)
     rw[<- hX]at own3 HTK
     have hXl:X.length=t+ml:=by rw[hX,List.length_append,List.length_map,HK2.out,HME.out]
     obtain⟨gn,cc,e3,hgn,hsr⟩:=zIF own3 hXl (by omega)
     cases e3
     have HXL:=hid hXl
     obtain⟨g',vs,ho,hin,he⟩:=HO.out
     rw[HL.out]at ho
     have hb2a:Below wo.heap.size wo (w3.alloc (.cells #[.slice (some ⟨gn,0,none⟩) (t+ml) c3] 24)):=hB3.alloc hB3.size _
     have M1:=hid (show k+1<=maxLen by unfold maxLen;omega)
     have M2:=hid (show(k+1)*24<=140737488355328 by omega)
     have M3:=hid (Nat.le_trans HBK.out.size hb2a.size)
     have HO2':=hid (zBI ho hb2a)
     have HE:=hid he
     have HIN:=hid hin
     have HSR2:=hid hsr
     have HB2':=hid hb2a
     have HOO:=hid ho
     have HC3:=hid (own_cap own3)
     clear he hin hsr hb2a ho own3 hX hXl hml1 hml2 hB3 g3
     go_wp2_with (at_builtin;refine zAQ _ rfl (.tmp 34) (.tmp 40) 22 rfl w.heap.size 24 (.slice none 0 0) 1 24 Tryz.underlying22 zKD rfl Nat.one_pos (.slice va k vc) k vs rfl HO2'.out (some ⟨w3.heap.size,0,none⟩) 1 1 [.slice (some ⟨gn,0,none⟩) (t+ml) c3] rfl rfl zCD (zBT w3 _ _) (zCT _ _ _) M1.out M2.out M3.out ?_;refine Stop.of ?_)
     refine Stop.go ?_
     intro a5 c5 w5 own5 g5
     have hsn:OwnM w5 w.heap.size (.slice a5 (k+1) c5) (C.take k++[X]):=by
      have own5':w5.ownsRow w.heap.size 24 1 (.slice a5 (k+1) c5) ((C.take k).length+1) (vs++[.slice (some ⟨gn,0,none⟩) X.length c3]):=by rw[HL.out,HXL.out];exact own5
      exact OwnM.snoc (by rw[HL.out];exact HOO.out) HIN.out HE.out HB2'.out (HSR2.out.keep (Below.heap_alloc _ _ _ HSR2.out.lt)) hgn (by rw[HXL.out];exact HC3.out) HBK.out.size g5 own5'
     have hB5:Below w.heap.size w w5:=(HBK.out.trans (HB2'.out.mono HBK.out.size)).grown g5 M3.out (fun q hq=>(HO2'.out.lt q hq).1)
     rw[<- HTK.out]at hsn
     go_wp2
     exact⟨⟨k+1,by omega,by go_num,hsn,hB5⟩,by simp[intOf];omega⟩
  ·obtain rfl:k=n:=by omega
   rw[List.take_of_length_le (by rw[HCL.out,HN.out];exact Nat.le_refl _)]at ho
   go_wp2
   go_ret
   exact⟨_,rfl,ho,hbk⟩
end
end Go.Proofs.YtlffndehhhpgjaaGreat
