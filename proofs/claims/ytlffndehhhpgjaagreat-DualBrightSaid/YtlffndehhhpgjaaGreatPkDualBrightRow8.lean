/- Walks and plain laws for DualBrightRow, part 8. -/
import Derived.Maps.AppendAt
import Derived.Laws.MakeOwn
import Derived.WalkSpells
import Derived.BigQuiet
import Derived.Shelf.Bits.Mul64
import Derived.Shelf.Spec.BitsCarry
import Derived.Test.YtlffndehhhpgjaaGreatPkDualBrightRow7
namespace Go.Proofs.YtlffndehhhpgjaaGreat
set_option linter.unusedVariables false
set_option linter.unusedSimpArgs false
set_option maxRecDepth 100000
set_option maxHeartbeats 4000000
open _root_.List renaming getElem?_eq_getElem → yAA, getElem_mem → yAH, take_succ_eq_append_getElem → yAI, take_of_length_le → yAL, mem_iff_getElem → yAM, length_append → yAN, getElem?_append_left → yAO, getElem?_append_right → yAQ, length_map → yAS, length_take → yAU, getElem?_eq_none → yAY, length_cons → yBB, append_nil → yBC, drop_eq_getElem_cons → yBD, map_append → yBF, getElem_cons_zero → yBG, mem_map → yBJ, getElem_append_right → yBL, getElem_append_left → yBO, range_succ → yBQ, getElem?_eq_some_iff → yBX, length_nil → yCD, getElem?_set_ne → yCI, foldl_append → yCO, foldl_nil → yCR, mem_append → yCU, set_cons_succ → yCX, set_append_right → yCZ, mem_append_right → yDA, foldl_cons → yDC, getElem?_set_self → yDK, getElem_set_ne → yDP, mem_append_left → yDZ, replicate_succ → yEE, length_set → yFE, replicate_zero → yGI
open _root_.Nat renaming le_refl → yAC, le_trans → yAF, lt_of_lt_of_le → yAJ, zero_le → yAK, lt_or_ge → yAP, mul_le_mul → yAV, zero_add → yAW, one_pos → yBH, sub_self → yCF, add_zero → yDS, lt_trichotomy → yFQ
open _root_.Int renaming lt_or_le → yBK, lt_trichotomy → yBS, natCast_mul → yCP, le_refl → yDE, natAbs_dvd_natAbs → yDT, eq_ofNat_of_zero_le → yES, dvd_refl → yFI, natAbs_tdiv → yGX
open _root_.Array renaming getElem?_eq_some_iff → yAB, getElem?_eq_none → yCW, toList_setIfInBounds → yEA, toList_inj → yEO
open _root_.Option renaming getD_some → yBA
section
section
section
theorem rRed_le1{n B:Nat}{L:List (List Int)}(hw:∀r∈L,r.length=n+1)(h:∀r∈(rRed L n).done++(rRed L n).left,∀x∈r,-(B:Int)<=x∧x<=(B:Int)):
 ∀r∈(rRed L (n+1)).done++(rRed L (n+1)).left,∀x∈r,-(B:Int)<=x∧x<=(B:Int):=by
 obtain⟨hi,hd⟩:=zEU L hw n
 have hwid:=hi.wid
 rw[zJE]
 obtain⟨s,hs⟩:=exq (rRed L n)
 rw[<- hs]at h hi hd hwid⊢
 unfold zMZ
 cases hl:zFG (nz n) s.left with
 |none=>exact h
 |some a=>
  simp only[]
  obtain⟨ha,hnz⟩:=zGQ hl
  have hnz':vec s.left[a] n≠0:=by simpa[nz]using hnz
  have hlen:=hi.len
  rw[yAN]at hlen
  have hrow:rowv (s.done++s.left) (s.piv.length+a)=vec s.left[a]:=by
   unfold rowv
   rw[yAQ (by omega),show s.piv.length+a-s.done.length=a by omega,yAA ha];rfl
  have hz:∀c,c<n->vec s.left[a] c=0:=fun c hc=>by rw[<- hrow];exact hi.zero _ (by omega) (by omega) c hc
  have hz2:∀c,n<c->vec s.left[a] c=0:=fun c hc=>zFP (by rw[hwid _ (yDA _ (yAH ha))];omega)
  have hpr:Prim (vec s.left[a]):=by
   rw[<- hrow]
   rcases hi.pr (s.piv.length+a) (by omega)with h1|h1|⟨q0,h1⟩
   ·exact h1
   ·rw[hrow]at h1;exact absurd (h1 n) hnz'
   ·rcases rowv_prim L q0 with h2|h2
    ·have:rowv (s.done++s.left) (s.piv.length+a)=rowv (L.map zDV) q0:=funext h1
     rw[this];exact h2
    ·have:=h1 n
     rw[h2 n,hrow]at this
     exact absurd this hnz'
  obtain⟨z,hzz,hpz⟩:=zJH (s.left[a]) n
  have hpp:=zJG hnz'
  rw[yAA ha]
  simp only[yBA]
  obtain⟨p,hp⟩:=exq (posF s.left[a] n)
  rw[<- hp]at hpz hpp⊢
  have hpl:p.length=n+1:=by rw[hp,zJI];exact hwid _ (yDA _ (yAH ha))
  have hpc:∀c,c<n->vec p c=0:=fun c hc=>by rw[hpz c,hz c hc];simp
  have hone:vec p n=1:=by
   have h1:vec s.left[a] n∣1:=hpr _ (fun c=>by
    rcases yFQ c n with h1|h1|h1
    ·rw[hz c h1];exact Int.dvd_zero _
    ·rw[h1];exact yFI _
    ·rw[hz2 c h1];exact Int.dvd_zero _)
   have h2:(vec s.left[a] n).natAbs=1:=by
    have:=yDT.2 h1
    exact Nat.dvd_one.1 (by simpa using this)
   have h3:=hpz n
   rcases hzz with rfl|rfl<;>omega
  have hpB:∀x∈p,-(B:Int)<=x∧x<=(B:Int):=by
   refine zFE (P:=fun x=> -(B:Int)<=x∧x<=(B:Int)) fun c=>?_
   have:=zDY (P:=fun x=> -(B:Int)<=x∧x<=(B:Int)) (by omega) (h _ (yDA _ (yAH ha))) c
   rw[hpz c]
   rcases hzz with rfl|rfl<;>omega
  have hwo:∀r∈s.done++s.left,∀x∈zBE p n r,-(B:Int)<=x∧x<=(B:Int):=by
   intro r hr
   refine zFE (P:=fun x=> -(B:Int)<=x∧x<=(B:Int)) fun c=>?_
   unfold zBE
   refine primF_le ?_
   rw[vec_zip (by simp) (by rw[hwid r hr,hpl])]
   have:=zDY (P:=fun x=> -(B:Int)<=x∧x<=(B:Int)) (by omega) (h r hr) c
   rw[hone]
   rcases yFQ c n with h1|h1|h1
   ·rw[hpc c h1];omega
   ·subst h1;rw[hone];omega
   ·rw[zFP (l:=p) (by omega),zFP (l:=r) (by rw[hwid r hr];omega)];omega
  intro r hr
  rcases yCU.1 hr with hr|hr
  ·rcases yCU.1 hr with hr|hr
   ·obtain⟨r',h1,rfl⟩:=yBJ.1 hr
    exact hwo r' (yDZ _ h1)
   ·obtain rfl:r=p:=by simpa using hr
    exact hpB
  ·obtain⟨r',h1,rfl⟩:=yBJ.1 hr
   exact hwo r' (yDA _ (List.mem_of_mem_eraseIdx h1))
end
section
open Go.RowKit
def OwnR(W:World)(base:Nat)(u:Value)(l:List Int):Prop:=W.ownsRow base 3 1 u l.length (l.map (Value.int .i64))
theorem OwnR.type{W:World}{base k:Nat}{u:Value}{l:List Int}(h:OwnR W base u l)(hk:u.ownBlock=some k):base<=k∧k<W.heap.size∧∃c,W.heap[k]? =some (.cells c 3 (0,0)):=by
 rcases h.2 with⟨rfl,_⟩|⟨g,cap,cur,rfl,hbg,hgg,_⟩
 ·simp[Value.ownBlock]at hk
 ·obtain rfl:g=k:=by simpa[Value.ownBlock]using hk
  exact⟨hbg,(yAB.1 hgg).1,cur,hgg⟩
theorem OwnR.moved{W W':World}{base:Nat}{u:Value}{l:List Int}(h:OwnR W base u l)(hm:∀k,u.ownBlock=some k->W'.heap[k]? =W.heap[k]?):OwnR W' base u l:=by
 refine⟨h.1,?_⟩
 rcases h.2 with hn|⟨g,cap,cur,rfl,hbg,hgg,rest⟩
 ·exact .inl hn
 ·exact .inr ⟨g,cap,cur,rfl,hbg,(hm g rfl).trans hgg,rest⟩
theorem OwnR.low{W:World}{base b0:Nat}{u:Value}{l:List Int}(h:OwnR W base u l)(hb:b0<=base):OwnR W b0 u l:=by
 refine⟨h.1,?_⟩
 rcases h.2 with hn|⟨g,cap,cur,rfl,hbg,rest⟩
 ·exact .inl hn
 ·exact .inr ⟨g,cap,cur,rfl,by omega,rest⟩
theorem OwnR.below{W W':World}{base:Nat}{u:Value}{l:List Int}(h:OwnR W base u l)(hb:Below W.heap.size W W'):OwnR W' base u l:=h.moved fun k hk=>hb.block k (h.type hk).2.1
theorem OwnR.rowS{W:World}{base:Nat}{u:Value}{l:List Int}(h:OwnR W base u l):RowS W u l:=zHW h rfl
def TabD(W:World)(base:Nat)(v:Value)(L:List (List Int)):Prop:=
 ∃vs,W.ownsRow base 24 1 v L.length vs∧(∀j (hj:j<L.length),∃u,vs[j]? =some u∧OwnR W base u L[j])∧
  ∀(i j:Nat) (u u':Value) (k:Nat),vs[i]? =some u->vs[j]? =some u'->u.ownBlock=some k->u'.ownBlock=some k->i=j
theorem TabD.nil(W:World)(base:Nat):TabD W base (.slice none 0 0) []:=⟨[],World.ownsRow_nil _ _ _ _,fun j hj=>by simp at hj,fun i j u u' k h=>by simp at h⟩
theorem TabD.tab{W:World}{base:Nat}{v:Value}{L:List (List Int)}(h:TabD W base v L):TabS W base v L:=by
 obtain⟨vs,h1,h2,_⟩:=h
 exact⟨vs,h1,fun j hj=>by obtain⟨u,e,h⟩:=h2 j hj;exact⟨u,e,h.rowS⟩⟩
theorem own_typeL{W:World}{base k n:Nat}{v:Value}{vs:List Value}(h:W.ownsRow base 24 1 v n vs)(hk:v.ownBlock=some k):base<=k∧k<W.heap.size∧∃c,W.heap[k]? =some (.cells c 24 (0,0)):=by
 rcases h.2 with⟨rfl,_⟩|⟨g,cap,cur,rfl,hbg,hgg,_⟩
 ·simp[Value.ownBlock]at hk
 ·obtain rfl:g=k:=by simpa[Value.ownBlock]using hk
  exact⟨hbg,(yAB.1 hgg).1,cur,hgg⟩
theorem TabD.snoc{W w1 w3:World}{base:Nat}{v v' u:Value}{L:List (List Int)}{r:List Int}{vs:List Value}(h1:W.ownsRow base 24 1 v L.length vs)
 (h2:∀j (hj:j<L.length),∃u,vs[j]? =some u∧OwnR W base u L[j])(h3:∀(i j:Nat) (u u':Value) (k:Nat),vs[i]? =some u->vs[j]? =some u'->u.ownBlock=some k->u'.ownBlock=some k->i=j)
 (hb:Below W.heap.size W w1)(hbase:base<=W.heap.size)(hr:OwnR w1 W.heap.size u r)(hg:w1.grownBy w3 v.ownBlock)
 (ho':w3.ownsRow base 24 1 v' (L.length+1) (vs++[u])):TabD w3 base v' (L++[r]):=by
 have hlen:vs.length=L.length:=by have:=h1.1;omega
 have hup:∀b u l,OwnR w1 b u l->OwnR w3 b u l:=by
  intro b u l hu
  refine hu.moved fun k hk=>?_
  obtain⟨_,hlt,c,hc⟩:=hu.type hk
  refine hg.block k hlt ?_
  intro e
  obtain⟨_,h4,c2,hc2⟩:=own_typeL h1 e.symm
  have:=(hb.block k h4).trans hc2
  rw[hc]at this;cases this
 have hold:∀j q k,j<L.length->vs[j]? =some q->q.ownBlock=some k->k<W.heap.size:=by
  intro j q k hj hq hk
  obtain⟨u',hu',hr'⟩:=h2 j hj
  rw[hq]at hu';cases hu'
  exact(hr'.type hk).2.1
 refine⟨vs++[u],by simpa using ho',fun j hj=>?_,?_⟩
 ·simp only[yAN,yBB,yCD,yAW]at hj
  by_cases hjl:j<L.length
  ·obtain⟨u',hu',hr'⟩:=h2 j hjl
   rw[yBO hjl]
   exact⟨u',by rw[yAO (by omega)];exact hu',hup _ _ _ (hr'.below hb)⟩
  ·obtain rfl:j=L.length:=by omega
   rw[yBL (yAC _)]
   simp only[yCF,yBG]
   exact⟨u,by rw[yAQ (by omega),hlen];simp,hup _ _ _ (hr.low hbase)⟩
 ·intro i j q q' k hi hj hk hk'
  have hin:∀{i:Nat} {q:Value},(vs++[u])[i]? =some q->(i<L.length∧vs[i]? =some q)∨(i=L.length∧q=u):=by
   intro i q h
   rcases yAP i L.length with h4|h4
   ·rw[yAO (by omega)]at h;exact .inl ⟨h4,h⟩
   ·rw[yAQ (by omega),hlen]at h
    rcases Nat.eq_or_lt_of_le h4 with h5|h5
    ·rw[<- h5,yCF]at h;exact .inr ⟨h5.symm,by simpa using h.symm⟩
    ·rw[yAY (by simp;omega)]at h;cases h
  rcases hin hi with⟨h4,h5⟩|⟨h4,rfl⟩<;>rcases hin hj with⟨h6,h7⟩|⟨h6,h8⟩
  ·exact h3 i j q q' k h5 h7 hk hk'
  ·subst h8
   have:=hold i q k h4 h5 hk
   have:=(hr.type hk').1
   omega
  ·have:=hold j q' k h6 h7 hk'
   have:=(hr.type hk).1
   omega
  ·omega
theorem TabD.at{W:World}{base n:Nat}{v:Value}{L:List (List Int)}(h:TabD W base v L)(hl:L.length=n){i:Nat}(hi:i<n):
 ∃g0 cap u,v=.slice (some ⟨g0,0,none⟩) n cap∧base<=g0∧g0<W.heap.size∧W.cell? ⟨g0,i,none⟩=some u∧OwnR W base u (L[i]?.getD [])∧W.frozen? ⟨g0,i,none⟩=false∧(∀k,u.ownBlock=some k->k≠g0)∧
  ∀w1 w3 u' r,Below W.heap.size W w1->w1.grownBy w3 u.ownBlock->OwnR w3 base u' r->(u'.ownBlock=u.ownBlock∨u'.ownBlock=some w1.heap.size)->TabD (w3.setCell ⟨g0,i,none⟩ u') base v (L.set i r):=by
 subst hl
 obtain⟨vs,h1,h2,h3⟩:=h
 obtain⟨u,hu,hr⟩:=h2 i hi
 rcases h1.2 with⟨rfl,h0⟩|⟨g0,cap,cur,rfl,hbg,hgg,hnc,hcm,hsz,htk⟩
 ·omega
 have hcell:=World.ownsRow.cellAt (w:=W) (base:=base) (e:=24) (size:=1) (g:=g0) (n:=L.length) (cap:=cap) (xs:=vs) h1 i (by omega)
 have hvl:vs.length=L.length:=by have:=h1.1;omega
 have hg0:g0<W.heap.size:=(yAB.1 hgg).1
 have hne:∀(j:Nat) (q:Value) (k:Nat),j<L.length->vs[j]? =some q->q.ownBlock=some k->k<W.heap.size∧k≠g0:=by
  intro j q k hj hq hk
  obtain⟨u',hu',hr'⟩:=h2 j hj
  rw[hq]at hu';cases hu'
  obtain⟨_,h4,c,hc⟩:=hr'.type hk
  refine⟨h4,?_⟩
  rintro rfl
  rw[hgg]at hc;cases hc
 refine⟨g0,cap,u,rfl,hbg,hg0,by rw[hcell];exact hu,by rw[yAA hi];exact hr,by simp[World.frozen?,hgg],fun k hk=>(hne i u k hi hu hk).2,?_⟩
 intro w1 w3 u' r hb hg hr' hat
 have hkeep:∀k,k≠g0->(w3.setCell ⟨g0,i,none⟩ u').heap[k]? =w3.heap[k]? :=fun k hk=>Below.heap_setCell _ _ _ _ hk
 have hold:∀k,k<W.heap.size->u.ownBlock≠some k->w3.heap[k]? =W.heap[k]? :=fun k hk hn=>(hg.block k (yAJ hk hb.size) (fun e=>hn e.symm)).trans (hb.block k hk)
 have hg3:w3.heap[g0]? =some (.cells cur 24 (0,0)):=(hold g0 hg0 (fun e=>(hne i u g0 hi hu e).2 rfl)).trans hgg
 have hb2:(w3.setCell ⟨g0,i,none⟩ u').heap[g0]? =some (.cells (cur.setIfInBounds i u') 24 (0,0)):=zAT hg3 i u'
 have hnew:∀k,u'.ownBlock=some k->k≠g0:=by
  intro k hk
  obtain⟨_,_,c,hc⟩:=hr'.type hk
  rintro rfl
  rw[hg3]at hc;cases hc
 refine⟨vs.set i u',⟨by simpa using h1.1,.inr ⟨g0,cap,cur.setIfInBounds i u',by simp,hbg,hb2,by simpa using hnc,hcm,by simpa using hsz,?_⟩⟩,fun j hj=>?_,?_⟩
 ·rw[<- htk]
  simp only[yEA,yFE,Nat.mul_one]
  rw[List.take_set]
 ·have hj':j<L.length:=by simpa using hj
  by_cases e:i=j
  ·subst e
   exact⟨u',by simp[hvl,hj'],by simpa using hr'.moved fun k hk=>hkeep k (hnew k hk)⟩
  ·obtain⟨u2,hu2,hr2⟩:=h2 j hj'
   refine⟨u2,by rw[yCI e];exact hu2,?_⟩
   rw[yDP e]
   refine hr2.moved fun k hk=>(hkeep k (hne j u2 k hj' hu2 hk).2).trans (hold k (hne j u2 k hj' hu2 hk).1 fun e2=>e (h3 i j u u2 k hu hu2 e2 hk))
 ·intro p q x y k hp hq hx hy
  have hin:∀{p:Nat} {x:Value},(vs.set i u')[p]? =some x->(p=i∧x=u')∨(p≠i∧p<L.length∧vs[p]? =some x):=by
   intro p x h
   by_cases e:i=p
   ·subst e
    rw[yDK (by omega)]at h
    exact .inl ⟨rfl,(Option.some.inj h).symm⟩
   ·rw[yCI e]at h
    exact .inr ⟨fun h=>e h.symm,by have:=(yBX.1 h).1;omega,h⟩
  have hdif:∀{p:Nat} {x:Value},p≠i->p<L.length->vs[p]? =some x->x.ownBlock=some k->u'.ownBlock=some k->False:=by
   intro p x h4 h5 h6 h7 h8
   rcases hat with h9|h9
   ·rw[h9]at h8
    exact h4 (h3 p i x u k h6 hu h7 h8)
   ·rw[h9]at h8
    have:=(hne p x k h5 h6 h7).1
    have:=hb.size
    cases h8;omega
  rcases hin hp with⟨h4,h5⟩|⟨h4,h5,h6⟩<;>rcases hin hq with⟨h7,h8⟩|⟨h7,h8,h9⟩
  ·omega
  ·subst h5;exact(hdif h7 h8 h9 hy hx).elim
  ·subst h8;exact(hdif h4 h5 h6 hx hy).elim
  ·exact h3 p q x y k h6 h9 hx hy
theorem r3columnsD_c(w:World)(a:Option Addr)(n cap:Nat)(M:List (List Int))(hn:M.length=n)(hn6:n<=1000)(H:zAM w a M)(a2:Option Addr)(k2 cap2:Nat)(S:List Int)(hk2:S.length=k2)(hk21:k2<=1000)(H2:zAH w a2 S)
 (hS:∀r∈M,∀j∈S,0<=j∧j<r.length):
 Calls Tryz.prog 184 #[.slice a n cap,.slice a2 k2 cap2] w fun e w'=>∃v,e=.returned v∧TabD w' w.heap.size v (zAO M S)∧Below w.heap.size w w':=by
 have HN:=hid hn
 have HH:=hid H
 have HK2:=hid hk2
 have HH2:=hid H2
 have HS:=hid hS
 have HCT:=hid (fun(k:Nat) (hk:k<M.length)=>zQD (M:=M) (S:=S) hk)
 have HCL:=hid (zBA M S)
 obtain⟨C,hC⟩:=exq (zAO M S)
 rw[<- hC]at HCT HCL⊢
 clear hn H hk2 H2 hS hC
 go_enter Tryz.func184,Tryz.ntmps184
 go_wp2
 go_loopw [5,13] (fun v i wr=>∃k:Nat,k<=n∧i=.int .i64 k∧TabD wr w.heap.size v (C.take k)∧Below w.heap.size w wr) (fun _ i _=>n-(intOf i).toNat)
 case atStart=>exact⟨0,yAK _,rfl,TabD.nil _ _,Below.refl _ _⟩
 case round=>
  obtain⟨k,hk,rfl,ho,hbk⟩:=hrel
  obtain⟨wo,hwo⟩:=exq (wr)
  subst hwo
  by_cases hlt:k<n
  ·have hkM:k<M.length:=by rw[HN.out];exact hlt
   obtain⟨b,off,ra,rn,rc,rfl,hbs,hq0,hrn,hrm,hri⟩:=(HH.out.below hbk) k hkM
   have htk:=HCT.out k hkM
   have hsr:=HS.out M[k] (yAH hkM)
   obtain⟨r,hr⟩:=exq (M[k])
   rw[<- hr]at htk hsr hrn hri
   have hlen:(C.take k).length=k:=by rw[yAU,HCL.out];omega
   have HL:=hid hlen
   have HTK:=hid htk
   have HSR:=hid hsr
   have HRN:=hid hrn
   have HRI:=hid hri
   have HO:=hid ho
   have HBK:=hid hbk
   obtain⟨va,vc,hv⟩:∃va vc,u5=.slice va k vc:=by
    obtain⟨_,ho1,_⟩:=ho
    obtain⟨a',c',e⟩:=zAC ho1
    exact⟨a',c',by rw[e,hlen]⟩
   subst hv
   have M0:=World.ownsRow_made (base:=wo.heap.size) (e:=3) (size:=1) wo #[] 0 (yAC _) (yAK _) rfl
   have HM0:=hid M0
   clear hr htk hsr hrn hri hkM ho hlen M0
   go_wp2
   go_loopw [8,20] (fun v i wr=>∃t:Nat,t<=k2∧i=.int .i64 t∧wr.ownsRow wo.heap.size 3 1 v t (((S.take t).map (fun j=>vec r j.toNat)).map (Value.int .i64))∧Below wo.heap.size wo wr) (fun _ i _=>k2-(intOf i).toNat)
   case atStart=>exact⟨0,yAK _,rfl,HM0.out,(Below.refl _ _).alloc (yAC _) _⟩
   case round=>
    obtain⟨t,ht,rfl,hown,hbt⟩:=hrel
    by_cases hlt2:t<k2
    ·have htS:t<S.length:=by rw[HK2.out];exact hlt2
     obtain⟨b2,off2,rfl,hbs2,hc2⟩:=(HH2.out.below (zAA HBK.out hbt)) t htS
     have hpp:=HSR.out S[t] (yAH htS)
     have hg2:S[t]?.getD 0=S[t]:=by rw[yAA htS];rfl
     rw[hg2]at hc2
     have htk2:(S.take (t+1)).map (fun j=>vec r j.toNat)=(S.take t).map (fun j=>vec r j.toNat)++[vec r (S[t]).toNat]:=by
      rw[yAI htS,yBF];rfl
     obtain⟨q,hq⟩:∃q:Nat,S[t]=q:=⟨(S[t]).toNat,by omega⟩
     rw[hq]at hc2 hpp htk2
     rw[show((q:Int)).toNat=q by omega]at htk2
     have hqr:q<r.length:=by omega
     obtain⟨b3,off3,rfl,hbs3,hc3⟩:=(HRI.out.below hbt) q hqr
     have hqn:(q:Int)<(rn:Int):=by have:=HRN.out;omega
     have hq0':(0:Int)<=(q:Int):=by omega
     obtain⟨x,hx⟩:=exq (r[q]?.getD 0)
     have hxv:vec r q=x:=hx.symm
     rw[<- hx]at hc3
     rw[hxv]at htk2
     obtain⟨la,lc,rfl⟩:=zAC hown
     have HTK2:=hid htk2
     have HOW:=hid hown
     have M1:=hid (show t+1<=maxLen by unfold maxLen;omega)
     have M2:=hid (show(t+1)*8<=140737488355328 by omega)
     have M3:=hid (yAF hbt.size (zCL wr (.cells #[.int .i64 x] 3)))
     clear hpp hg2 htk2 hq hx hxv hown htS hqr
     go_wp2_with (at_builtin;refine zAN _ rfl (.tmp 24) (.tmp 29) 24 rfl wo.heap.size 3 (.int .i64 0) 1 8 Tryz.underlying24 zDN rfl yBH (.slice la t lc) t _ rfl (HOW.out.alloc _) (some ⟨wr.heap.size,0,none⟩) 1 1 [.int .i64 x] rfl rfl zBS (zBC wr _ _) (zEL _) M1.out M2.out M3.out ?_;refine Stop.of ?_)
     refine Stop.go ?_
     intro a3 c3 w3 own3 g3
     have hB3:Below wo.heap.size wo w3:=(hbt.alloc hbt.size _).grown g3 M3.out (fun k hk=>(HOW.out.lt k hk).1)
     go_wp2
     refine⟨⟨t+1,by omega,by go_num,?_,hB3⟩,by simp[intOf];omega⟩
     rw[HTK2.out]
     simpa using own3
    ·obtain rfl:t=k2:=by omega
     rw[yAL (by rw[HK2.out];exact yAC _)]at hown
     obtain⟨X,hX⟩:=exq (S.map (fun j=>vec r j.toNat))
     rw[<- hX]at hown HTK
     have hXl:X.length=t:=by rw[hX,yAS,HK2.out]
     obtain⟨la,lc,rfl⟩:=zAC hown
     have hrs:OwnR wr wo.heap.size (.slice la t lc) X:=by unfold OwnR;rw[hXl];exact hown
     obtain⟨vs,ho1,ho2,ho3⟩:=HO.out
     have ho1':=ho1
     rw[HL.out]at ho1'
     have hb2a:Below wo.heap.size wo (wr.alloc (.cells #[.slice la t lc] 24)):=hbt.alloc hbt.size _
     have M1:=hid (show k+1<=maxLen by unfold maxLen;omega)
     have M2:=hid (show(k+1)*24<=140737488355328 by omega)
     have M3:=hid (yAF HBK.out.size hb2a.size)
     have HO2':=hid (zBJ ho1' hb2a)
     have HO1:=hid ho1
     have HO2:=hid ho2
     have HO3:=hid ho3
     have HRS:=hid (hrs.below ((Below.refl _ wr).alloc (yAC _) (.cells #[.slice la t lc] 24)))
     have HB2':=hid hb2a
     clear hX hXl hown hrs ho1 ho1' ho2 ho3 hb2a hbt
     go_wp2_with (at_builtin;refine zAN _ rfl (.tmp 32) (.tmp 34) 22 rfl w.heap.size 24 (.slice none 0 0) 1 24 Tryz.underlying22 zEP rfl yBH (.slice va k vc) k vs rfl HO2'.out (some ⟨wr.heap.size,0,none⟩) 1 1 [.slice la t lc] rfl rfl zBS (zBC wr _ _) (zBL _ _ _) M1.out M2.out M3.out ?_;refine Stop.of ?_)
     refine Stop.go ?_
     intro a5 c5 w5 own5 g5
     have hsn:TabD w5 w.heap.size (.slice a5 (k+1) c5) (C.take k++[X]):=TabD.snoc HO1.out HO2.out HO3.out HB2'.out HBK.out.size HRS.out g5 (by rw[HL.out];exact own5)
     have hB5:Below w.heap.size w w5:=(HBK.out.trans (HB2'.out.mono HBK.out.size)).grown g5 M3.out (fun q hq=>(HO2'.out.lt q hq).1)
     rw[<- HTK.out]at hsn
     go_wp2
     exact⟨⟨k+1,by omega,by go_num,hsn,hB5⟩,by simp[intOf];omega⟩
  ·obtain rfl:k=n:=by omega
   rw[yAL (by rw[HCL.out,HN.out];exact yAC _)]at ho
   go_wp2
   go_ret
   exact⟨_,rfl,ho,hbk⟩
end
section
open Go.RowKit
def zBO(w:World)(g:Nat)(l:List Rt):Prop:=w.heap[g]? =some (.cells (zAQ l).toArray 29 (0,0))
theorem zBO.lt{w:World}{g:Nat}{l:List Rt}(h:zBO w g l):g<w.heap.size:=(yAB.1 h).1
theorem zBO.keep{w w':World}{g:Nat}{l:List Rt}(h:zBO w g l)(hk:w'.heap[g]? =w.heap[g]?):zBO w' g l:=hk.trans h
theorem zBO.cells{w:World}{g:Nat}{l:List Rt}(h:zBO w g l){k:Nat}(hk:k<l.length):w.cell? ⟨g,k*2,none⟩=some (.int .i64 l[k].1)∧w.cell? ⟨g,k*2+1,none⟩=some (.int .i64 l[k].2)∧∀o,w.frozen? ⟨g,o,none⟩=false:=by
 unfold zBO at h
 refine⟨?_,?_,fun o=>by simp[World.frozen?,h]⟩
 ·have:=zFB l k 0 hk (by omega)
  simp[World.cell?,h];rw[yDS]at this;rw[this];rfl
 ·have:=zFB l k 1 hk (by omega)
  simp[World.cell?,h];rw[this];rfl
theorem zMY:∀(l:List Rt) (k:Nat) (p q:Int),k<l.length->((zAQ l).set (k*2) (.int .i64 p)).set (k*2+1) (.int .i64 q)=zAQ (l.set k (p,q))
 |x::l,0,p,q,_=>by simp[zAQ,zBH]
 |x::l,k+1,p,q,h=>by
  have ih:=zMY l k p q (by simpa using h)
  have e:zAQ (x::l)=.int .i64 x.1:: .int .i64 x.2::zAQ l:=rfl
  rw[e,show(k+1)*2=(k*2+1)+1 by omega]
  simp only[yCX]
  rw[ih];rfl
theorem zBO.set{w:World}{g:Nat}{l:List Rt}(h:zBO w g l){k:Nat}(hk:k<l.length)(p q:Int):zBO ((w.setCell ⟨g,k*2,none⟩ (.int .i64 p)).setCell ⟨g,k*2+1,none⟩ (.int .i64 q)) g (l.set k (p,q)):=by
 unfold zBO
 rw[zAT (zAT h (k*2) (.int .i64 p)) (k*2+1) (.int .i64 q),<- zMY l k p q hk]
 congr 2
 apply yEO.1
 simp
theorem zBO.own{w:World}{base g n:Nat}{l:List Rt}(h:zBO w g l)(hl:l.length=n)(hn:n<=maxLen)(hb:base<=g):zEC w base (.slice (some ⟨g,0,none⟩) n n) l:=by
 subst hl
 refine⟨zBU l,.inr ⟨g,_,_,rfl,hb,h,yAC _,hn,by simp[zBU],?_⟩⟩
 rw[<- zBU l];simp
theorem ratVals_rep(n:Nat):zAQ (List.replicate n (0,0))=List.replicate (n*2) (.int .i64 0):=by
 induction n with
 |zero=>rfl
 |succ n ih=>
  rw[yEE,show(n+1)*2=n*2+1+1 by omega,yEE,yEE,<- ih];rfl
theorem zRF(w:World)(n:Nat):zBO (w.alloc (.cells (madeCells #[.int .i64 0,.int .i64 0] (n*2)) 29)) w.heap.size (List.replicate n (0,0)):=by
 have e:madeCells #[Value.int .i64 0,.int .i64 0] (n*2)=(zAQ (List.replicate n (0,0))).toArray:=by
  rw[ratVals_rep]
  apply Array.ext
  ·simp[size_madeCells]
  ·intro i h1 h2
   have:i%2=0∨i%2=1:=by omega
   rcases this with h|h<;>simp[madeCells,h]
 unfold zBO
 rw[World.alloc_heap_new,e]
theorem zHH(n:Nat)(hn:n<=1000)(w:World):(Instr.makeSlice 42 (.int .i64 (n:Int)) (.int .i64 (n:Int))).run Tryz.prog w=.ok (.slice (some ⟨w.heap.size,0,none⟩) n n) (w.alloc (.cells (madeCells #[.int .i64 0,.int .i64 0] (n*2)) 29)):=by
 obtain⟨i,hi,hz0,hz1,hz2⟩:=info_parts zPW
 have:=run_makeSlice w 42 29 i _ Tryz.underlying42 hi hz0 .i64 .i64 (n:Int) (n:Int) (by omega) (by omega) (by rw[hz1];omega) (by rw[hz2];omega) (by omega)
 rw[this,hz1];rfl
def addY(L:List (List Int))(y:List Int)(k:Nat):List (List Int):=zAJ (L.take k) (y.take k)++L.drop k
theorem addY_zero(L:List (List Int))(y:List Int):addY L y 0=L:=by simp[addY,zAJ]
theorem addY_all{L:List (List Int)}{y:List Int}{n:Nat}(h1:L.length=n)(h2:y.length=n):addY L y n=zAJ L y:=by
 unfold addY;rw[yAL (by omega),yAL (by omega),List.drop_of_length_le (by omega),yBC]
theorem addY_len{L:List (List Int)}{y:List Int}{n k:Nat}(h1:L.length=n)(h2:y.length=n)(hk:k<=n):(addY L y k).length=n:=by
 unfold addY zAJ;simp;omega
theorem addY_get{L:List (List Int)}{y:List Int}{n k:Nat}(h1:L.length=n)(h2:y.length=n)(hk:k<n):(addY L y k)[k]?.getD []=L[k]?.getD []:=by
 unfold addY zAJ
 rw[yAQ (by simp;omega)]
 simp
 rw[show k-min k (min L.length (min k y.length))=0 by omega,yDS]
theorem addY_succ{L:List (List Int)}{y:List Int}{n k:Nat}(h1:L.length=n)(h2:y.length=n)(hk:k<n):addY L y (k+1)=(addY L y k).set k (L[k]?.getD []++[y[k]?.getD 0]):=by
 have hkL:k<L.length:=by omega
 have hky:k<y.length:=by omega
 unfold addY zAJ
 rw[yAI hkL,yAI hky,List.zipWith_append (by simp;omega)]
 rw[yCZ _ _ (by simp;omega),yBD hkL]
 simp[hkL,hky]
 rw[show k-min k (min L.length (min k y.length))=0 by omega,yBD hkL]
 rfl
end
end
section
section
open Go.RowKit
theorem r3solved_c(w:World)(a a2 a3:Option Addr)(n cap n2 cap2 cap3:Nat)(M:Mask)(l y:List Int)(hn:M.length=n)(hn2:l.length=n2)(hn3:y.length=n)(H:zAM w a M)(H2:zAH w a2 l)(H3:zAH w a3 y)
 (hok:okM M=true)(hmil:milB y=true)(hso:zCI (zAD M) l):
 Calls Tryz.prog 219 #[.slice a n cap,.slice a2 n2 cap2,.slice a3 n cap3] w fun e w'=>∃v base,e=.returned (.tuple #[v,.int .i64 (zBR (zAJ (zAO M l) y) n2).2.1,.bool (zBR (zAJ (zAO M l) y) n2).2.2])∧w.heap.size<=base∧zEC w' base v (zBR (zAJ (zAO M l) y) n2).1∧Below w.heap.size w w':=by
 obtain⟨hM,h1,h6,hc1,hc10⟩:=zCR hok
 have hl10:=zPJ hso
 have hn6:n<=6:=by omega
 have hn1:1<=n:=by omega
 have hn210:n2<=10:=by omega
 have hS:∀r∈M,∀j∈l,0<=j∧j<r.length:=fun r hr j hj=>by rw[hM.wid r hr];exact hso.2 j hj
 have HCl:=hid (r3columnsD_c w a n cap M hn (by omega) H a2 n2 cap2 l hn2 (by omega) H2 hS)
 have hMC:MaskOk (zAO M l) n2:=by rw[<- hn2];exact hM.cols l
 have hB6:=zHZ hmil
 have hY:=hMC.addY (y:=y) (by rw[zBA];omega) (Y:=1000000) (by omega) hB6
 have hCl:(zAO M l).length=n:=by rw[zBA,hn]
 have hClw:=hMC.wid
 obtain⟨L0,hL0⟩:=exq (zAO M l)
 rw[<- hL0]at HCl hY hCl hClw⊢
 have hAll:=addY_all hCl hn3
 have hCn:(zAJ L0 y).length=n:=by rw[zEK (by omega),hCl]
 have HAG:=hid (fun k (hk:k<n)=>addY_get (k:=k) hCl hn3 hk)
 have HAS:=hid (fun k (hk:k<n)=>addY_succ (k:=k) hCl hn3 hk)
 have HAL:=hid (fun k (hk:k<=n)=>addY_len (k:=k) hCl hn3 hk)
 have HA0:=hid (addY_zero L0 y)
 obtain⟨C,hC⟩:=exq (zAJ L0 y)
 rw[<- hC]at hY hAll hCn⊢
 have hle:∀t,t<=n2+1->∀r∈(rRed C t).done++(rRed C t).left,r.length=n2+1∧BndL 1073741824 r:=fun t ht r hr=>by
  have h0:∀t,t<=n2->∀r∈(rRed C t).done++(rRed C t).left,∀x∈r,-((720*1000000:Nat):Int)<=x∧x<=((720*1000000:Nat):Int):=fun t ht r hr=>(rRed_le hY.wid hY.le6 hY.one hY.all ht r hr).2
  refine⟨(zEU C hY.wid t).1.wid r hr,?_⟩
  rcases yAP n2 t with h|h
  ·obtain rfl:t=n2+1:=by omega
   intro x hx
   have:=rRed_le1 hY.wid (h0 n2 (yAC _)) r hr x hx
   omega
  ·intro x hx
   have:=h0 t h r hr x hx
   omega
 have HRd:=hid (fun(X:World) (a5:Option Addr) (c5:Nat) (hR:zAM X a5 C)=>zNB X a5 n c5 C (n2+1) hCn (by omega) hR hY.wid (by omega) (fun r hr x hx=>by have:=hY.all r hr x hx;omega)
  hle (fun t=>by rw[(zHX hY.wid t).1,hCn]) (fun t=>(zHX hY.wid t).2))
 have hinv:=(zEU C hY.wid (n2+1)).1
 have hdp:(rRed C (n2+1)).piv.length=(rRed C (n2+1)).done.length:=(zHX hY.wid (n2+1)).2
 have hDw:∀r∈(rRed C (n2+1)).done,r.length=n2+1:=fun r hr=>(hle _ (yAC _) r (yDZ _ hr)).1
 have hDb:∀r∈(rRed C (n2+1)).done,BndL 1073741824 r:=fun r hr=>(hle _ (yAC _) r (yDZ _ hr)).2
 have hKn:(rRed C (n2+1)).piv.length<=n:=by have:=(zHX hY.wid (n2+1)).1;omega
 have hJlt:∀k,k<(rRed C (n2+1)).piv.length->jf (rRed C (n2+1)).piv k<n2+1:=fun k hk=>by
  unfold jf;rw[yAA hk];exact hinv.lt _ (yAH hk)
 have hJpos:∀k,k<(rRed C (n2+1)).piv.length->0<vec ((rRed C (n2+1)).done[k]?.getD []) (jf (rRed C (n2+1)).piv k):=fun k hk=>by
  have:=(hinv.pp k hk).2
  unfold rowv at this
  rw[yAO (by omega)]at this
  exact this
 have HSV:=hid (show zBR C n2=if n2∈(rRed C (n2+1)).piv then([],0,false)else((List.range (rRed C (n2+1)).piv.length).foldl (fun out i=>out.set (jf (rRed C (n2+1)).piv i) (zBF (vec ((rRed C (n2+1)).done[i]?.getD []) n2) (vec ((rRed C (n2+1)).done[i]?.getD []) (jf (rRed C (n2+1)).piv i)))) (List.replicate n2 (0,1)),(n2:Int)-(rRed C (n2+1)).piv.length,true)from rfl)
 obtain⟨SV,hSV⟩:=exq (zBR C n2)
 rw[<- hSV]at HSV⊢
 obtain⟨D,hD⟩:=exq ((rRed C (n2+1)).done)
 obtain⟨J,hJ⟩:=exq ((rRed C (n2+1)).piv)
 rw[<- hD]at HRd hdp hDw hDb hJpos HSV
 rw[<- hJ]at HRd hdp hJpos HSV hKn hJlt
 obtain⟨K,hK⟩:=exq (J.length)
 rw[<- hK]at HRd hdp hJpos HSV hKn hJlt
 have HKJ:=hid hK
 have HDL:=hid (show D.length=K from hdp.symm)
 have HDW:=hid hDw
 have HDB:=hid hDb
 have HJLT:=hid hJlt
 have HJPOS:=hid hJpos
 have HALL:=hid hAll
 have HN3:=hid hn3
 have HH3:=hid H3
 have HCW:=hid hClw
 have HCL:=hid hCl
 have HYW:=hid hY.wid
 clear hSV hD hJ hK hdp hDw hDb hJlt hJpos hAll hn3 H3 hClw hle hinv hC hL0 hY hMC hB6 hS hCn hCl H H2 hn hn2 hso hmil hok hM h1 h6 hc1 hc10 hl10
 go_enter Tryz.func219,Tryz.ntmps219
 go_wp2_with (go_at_call 184;refine HCl.out.mono ?_;rintro e w1 ⟨v1,rfl,hT1,hb1⟩;refine Stop.of ?_)
 refine Stop.go ?_
 have hv1:∃g1 c1,v1=.slice (some ⟨g1,0,none⟩) n c1:=by
  obtain⟨g1,c1,_,e,_⟩:=hT1.at HCL.out (i:=0) (by omega)
  exact⟨g1,c1,e⟩
 obtain⟨g1,c1,rfl⟩:=hv1
 have HT1:=hid hT1
 have HB1:=hid hb1
 clear hT1 hb1 HCl
 go_wp2
 go_loopw [22] (fun i wr=>∃k:Nat,k<=n∧i=.int .i64 k∧TabD wr w.heap.size (.slice (some ⟨g1,0,none⟩) n c1) (addY L0 y k)∧Below w.heap.size w wr) (fun i _=>n-(intOf i).toNat)
 case atStart=>exact⟨0,yAK _,rfl,by rw[HA0.out];exact HT1.out,HB1.out⟩
 case round=>
  obtain⟨k,hk,rfl,hT,hbk⟩:=hrel
  by_cases hlt:k<n
  ·obtain⟨g0,cap0,u,e,hbg,hg0,hcu,hou,hfu,hune,hset⟩:=hT.at (HAL.out k hk) hlt
   cases e
   rw[HAG.out k hlt]at hou
   obtain⟨yb,yo,rfl,hys,hyc⟩:=HH3.out k (by rw[HN3.out];exact hlt)
   have hasu:=HAS.out k hlt
   obtain⟨x,hx⟩:=exq (y[k]?.getD 0)
   rw[<- hx]at hyc hasu
   have hrl:(L0[k]?.getD []).length=n2:=by
    rw[yAA (by rw[HCL.out];exact hlt)];exact HCW.out _ (yAH _)
   obtain⟨r,hr⟩:=exq (L0[k]?.getD [])
   rw[<- hr]at hou hasu hrl
   unfold OwnR at hou
   rw[hrl]at hou
   obtain⟨ua,uc,rfl⟩:=zAC hou
   have HOU:=hid hou
   have HUN:=hid hune
   have HSET:=hid hset
   have HAU:=hid hasu
   have HBK:=hid hbk
   have HRL:=hid hrl
   have hg0:=hg0
   have HSU:=hid (hou.lt)
   have HS:=hid (fun(X:World) (hX:Below wr.heap.size wr X)=>show X.cell? ⟨g1,k,none⟩=some (.slice ua n2 uc)∧X.cell? ⟨yb,yo+k,none⟩=some (.int .i64 x)from
    ⟨(hX.cell (p:=⟨g1,k,none⟩) hg0).trans hcu,(hX.cell (p:=⟨yb,yo+k,none⟩) (yAJ hys hbk.size)).trans ((hbk.cell (p:=⟨yb,yo+k,none⟩) hys).trans hyc)⟩)
   have i1:(k:Int)<(n:Int):=by omega
   have M1:=hid (show n2+1<=maxLen by unfold maxLen;omega)
   have M2:=hid (show(n2+1)*8<=140737488355328 by omega)
   clear hou hune hset hasu hbk hrl hx hr hyc hcu hT
   go_wp2
   refine zAG (fun j' X=>decide (j'<=11)=true->X.cell? ⟨g1,k,none⟩=some (.slice ua n2 uc)∧X.cell? ⟨yb,yo+k,none⟩=some (.int .i64 x)) (by kernel_rfl) ?_
   have hbd:Below wr.heap.size wr wr.drew:=(Below.refl _ _).drew
   have HO2:=hid (zBJ HOU.out ((Below.refl _ wr).drew))
   have HB3:=hid hbd
   generalize wr.drew=wd at hbd HO2 HB3⊢
   refine AnyT.tD (i:=0) (v:=.slice (some ⟨g1,0,none⟩) n c1) rfl rfl (by rintro w' ⟨y1,y2⟩;go_simp) (HS.out _ hbd) ?_;go_frame
   refine AnyT.tD (i:=1) (v:=.int .i64 k) rfl rfl (by rintro w' ⟨y1,y2⟩;go_simp) (HS.out _ hbd) ?_;go_frame
   refine AnyT.tD (i:=2) (v:=.slice (some ⟨g1,0,none⟩) n c1) rfl rfl (by rintro w' ⟨y1,y2⟩;go_simp) (HS.out _ hbd) ?_;go_frame
   refine AnyT.tD (i:=3) (v:=.int .i64 k) rfl rfl (by rintro w' ⟨y1,y2⟩;go_simp) (HS.out _ hbd) ?_;go_frame
   refine AnyT.tD (i:=4) (v:=.pointer (some ⟨g1,k,none⟩)) rfl rfl (by rintro w' ⟨y1,y2⟩;go_simp) (HS.out _ hbd) ?_;go_frame
   refine AnyT.tD (i:=5) (v:=.slice ua n2 uc) rfl rfl (by rintro w' ⟨y1,y2⟩;go_simp) (HS.out _ hbd) ?_;go_frame
   refine AnyT.tD (i:=6) (v:=.slice (some ⟨yb,yo,none⟩) n cap3) rfl rfl (by rintro w' ⟨y1,y2⟩;go_simp) (HS.out _ hbd) ?_;go_frame
   refine AnyT.tD (i:=7) (v:=.int .i64 k) rfl rfl (by rintro w' ⟨y1,y2⟩;go_simp) (HS.out _ hbd) ?_;go_frame
   refine AnyT.tD (i:=8) (v:=.pointer (some ⟨yb,yo+k,none⟩)) rfl rfl (by rintro w' ⟨y1,y2⟩;go_simp) (HS.out _ hbd) ?_;go_frame
   refine AnyT.tD (i:=9) (v:=.int .i64 x) rfl rfl (by rintro w' ⟨y1,y2⟩;go_simp) (HS.out _ hbd) ?_;go_frame
   have hbA:Below wr.heap.size wr (wd.alloc (.cells #[.int .i64 x] 3)):=HB3.out.alloc HB3.out.size _
   have M3:=hid (yAF HBK.out.size hbA.size)
   refine AnyT.nx (i:=10) rfl ?_
   go_wp2
   refine⟨fun _=>HS.out _ hbA,?_⟩
   refine AnyT.nx (i:=11) rfl ?_
   refine zIZ _ rfl (.tmp 30) (.tmp 35) 24 rfl w.heap.size 3 (.int .i64 0) 1 8 Tryz.underlying24 zDN rfl yBH (.slice ua n2 uc) n2 _ rfl (HO2.out.alloc _) ⟨wd.heap.size,0,none⟩ 1 1 [.int .i64 x] rfl rfl (zBC wd _ _ _ rfl) (zEL _) M1.out M2.out M3.out ?_
   intro a5 c5 w5 own5 g5 hat
   have hD5:TabD (w5.setCell ⟨g1,k,none⟩ (.slice a5 (n2+1) c5)) w.heap.size (.slice (some ⟨g1,0,none⟩) n c1) (addY L0 y (k+1)):=by
    rw[HAU.out]
    exact HSET.out _ w5 _ (r++[x]) hbA g5 (by unfold OwnR;simpa[HRL.out]using own5) hat
   have hb5:Below w.heap.size w w5:=(HBK.out.trans (hbA.mono HBK.out.size)).grown g5 M3.out (fun q hq=>(HSU.out q hq).1)
   have hg5:w5.heap[g1]? =(wd.alloc (.cells #[.int .i64 x] 3)).heap[g1]? :=g5.block g1 (yAJ hg0 hbA.size) (fun e=>HUN.out g1 e.symm rfl)
   have hy5:w5.heap[yb]? =(wd.alloc (.cells #[.int .i64 x] 3)).heap[yb]? :=g5.block yb (yAJ hys M3.out) (fun e=>by have:=(HSU.out yb e.symm).1;omega)
   have q1:w5.cell? ⟨g1,k,none⟩=some (.slice ua n2 uc):=(World.cell?_of_block (a:=⟨g1,k,none⟩) hg5).trans (HS.out _ hbA).1
   have q2:w5.cell? ⟨yb,yo+k,none⟩=some (.int .i64 x):=(World.cell?_of_block (a:=⟨yb,yo+k,none⟩) hy5).trans (HS.out _ hbA).2
   have q3:w5.frozen? ⟨g1,k,none⟩=false:=by
    have h5:w5.heap[g1]? =wr.heap[g1]? :=hg5.trans (hbA.block g1 hg0)
    rw[<- hfu];simp[World.frozen?,h5]
   have q4:g1<w5.heap.size:=by
    rcases yAP g1 w5.heap.size with h|h
    ·exact h
    ·rw[World.cell?,yCW h]at q1;cases q1
   have hbe:Below w.heap.size w (w5.setCell ⟨g1,k,none⟩ (.slice a5 (n2+1) c5)):=zAE hb5 hbg k _
   refine⟨fun _=>⟨q1,q2⟩,?_⟩
   have HD5:=hid hD5
   have HBE:=hid hbe
   clear own5 g5 hat hD5 hb5 hg5 hy5 hbe hbA
   refine AnyT.nx (i:=12) rfl ?_
   go_wp2
   refine⟨fun h=>absurd h (by decide),?_⟩
   refine AnyT.nx (i:=13) rfl ?_
   go_wp2
   refine⟨fun h=>absurd h (by decide),?_⟩
   refine AnyT.done (by kernel_rfl) ?_ _
   go_wp2
   exact⟨⟨k+1,by omega,by go_num,HD5.out,HBE.out⟩,by simp[intOf];omega⟩
  ·obtain rfl:k=n:=by omega
   rw[HALL.out]at hT
   have hRA:=hT.tab.rows (by rw[<- HALL.out];exact HAL.out k (yAC _)) (fun r hr=>by rw[HYW.out r hr];unfold maxLen;omega)
   have HR1:=hid (HRd.out wr (some ⟨g1,0,none⟩) c1 hRA)
   have HBK:=hid hbk
   clear hT hRA hbk HRd
   go_wp2_with (go_at_call 225;refine HR1.out.mono ?_;rintro e w3 ⟨vD,vP,rfl,hTD,hTP,hb3⟩;refine Stop.of ?_)
   refine Stop.go ?_
   obtain⟨dA,dc,rfl⟩:∃a c,vD=.slice a K c:=by
    obtain⟨_,ho,_⟩:=hTD
    obtain⟨a',c',e⟩:=zAC ho
    exact⟨a',c',by rw[e,HDL.out]⟩
   have HDA:=hid (hTD.rows HDL.out (fun r hr=>by rw[HDW.out r hr];unfold maxLen;omega))
   obtain⟨ja,jc,rfl,hJI,hJm⟩:=zCK hTP (by unfold zIJ;rw[yAS,HKJ.out])
   have HJI:=hid hJI
   have HBW:=hid (show Below w.heap.size w w3 from HBK.out.trans (hb3.mono HBK.out.size))
   clear hTD hTP hJI hb3 HR1 HBK
   have hmk:=zHH n2 (by omega)
   obtain⟨w7,hw7⟩:=exq (w3.alloc (.cells (madeCells #[.int .i64 0,.int .i64 0] (n2*2)) 29))
   obtain⟨g,hg⟩:=exq (w3.heap.size)
   have HRB0:=hid (show zBO w7 g (List.replicate n2 (0,0))by rw[hw7,hg];exact zRF w3 n2)
   have HB7:=hid (show Below g w3 w7 by rw[hw7,hg];exact(Below.refl _ _).alloc (yAC _) _)
   go_wp2_with fail
   rw[<- hg,<- hw7]
   have HG:=hid hg
   clear hg hw7 hmk
   go_wp2
   go_loopw [49] (fun i wr=>∃t:Nat,t<=n2∧i=.int .i64 t∧zBO wr g (List.replicate t (0,1)++List.replicate (n2-t) (0,0))∧Below w3.heap.size w3 wr) (fun i _=>n2-(intOf i).toNat)
   case atStart=>exact⟨0,yAK _,rfl,by simpa using HRB0.out,by rw[<- HG.out];exact HB7.out⟩
   case round=>
    obtain⟨t,ht,rfl,hr,hbk⟩:=hrel
    by_cases hlt:t<n2
    ·have hlen:(List.replicate t ((0,1):Rt)++List.replicate (n2-t) (0,0)).length=n2:=by simp;omega
     obtain⟨⟨z0,q0⟩,⟨z1,q1⟩,f0,f1⟩:(∃z,wr.cell? ⟨g,t*2,none⟩=some (.int .i64 z))∧(∃z,wr.cell? ⟨g,t*2+1,none⟩=some (.int .i64 z))∧wr.frozen? ⟨g,t*2,none⟩=false∧wr.frozen? ⟨g,t*2+1,none⟩=false:=by
      obtain⟨q0,q1,q2⟩:=hr.cells (k:=t) (by rw[hlen];exact hlt)
      exact⟨⟨_,q0⟩,⟨_,q1⟩,q2 _,q2 _⟩
     have hst:=hr.set (k:=t) (by rw[hlen];exact hlt) 0 1
     have e1:(List.replicate t ((0,1):Rt)++List.replicate (n2-t) (0,0)).set t (0,1)=List.replicate (t+1) (0,1)++List.replicate (n2-(t+1)) (0,0):=by
      rw[yCZ _ _ (by simp),show n2-t=n2-(t+1)+1 by omega,yEE (n:=n2-(t+1)),List.replicate_succ' (n:=t)]
      simp
     rw[e1]at hst
     have hbe:Below w3.heap.size w3 ((wr.setCell ⟨g,t*2,none⟩ (.int .i64 0)).setCell ⟨g,t*2+1,none⟩ (.int .i64 1)):=zAE (zAE hbk (by rw[HG.out];exact yAC _) _ _) (by rw[HG.out];exact yAC _) _ _
     have hgl:=hr.lt
     have HST:=hid hst
     have HBE:=hid hbe
     have i1:(t:Int)<(n2:Int):=by omega
     clear hst hbe e1 hlen hr hbk
     go_wp2
     exact⟨⟨t+1,by omega,by go_num,HST.out,HBE.out⟩,by simp[intOf];omega⟩
    ·obtain rfl:t=n2:=by omega
     rw[yCF,yGI,yBC]at hr
     have HR:=hid hr
     have HBK:=hid hbk
     clear hr hbk
     go_wp2
     obtain⟨outTo,hOT⟩:∃f:Nat->List Rt,f=fun k=>(List.range k).foldl (fun out i=>out.set (jf J i) (zBF (vec (D[i]?.getD []) t) (vec (D[i]?.getD []) (jf J i)))) (List.replicate t (0,1)):=⟨_,rfl⟩
     have HO0:=hid (show outTo 0=List.replicate t (0,1)by rw[hOT];rfl)
     have HOS:=hid (fun k=>show outTo (k+1)=(outTo k).set (jf J k) (zBF (vec (D[k]?.getD []) t) (vec (D[k]?.getD []) (jf J k)))by rw[hOT];simp only[];rw[yBQ,yCO];rfl)
     have HOE:=hid (show SV=if t∈J then([],0,false)else(outTo K,(t:Int)-K,true)by rw[HSV.out,hOT])
     have HOL:=hid (fun k=>show(outTo k).length=t by
      induction k with
      |zero=>rw[HO0.out];simp
      |succ k ih=>rw[HOS.out k];simpa using ih)
     clear hOT
     go_loopw [59] (fun i wr=>∃k:Nat,k<=K∧i=.int .i64 k∧zBO wr g (outTo k)∧Below w3.heap.size w3 wr∧Hid (∀i,i<k->jf J i≠t)) (fun i _=>K-(intOf i).toNat)
     case atStart=>exact⟨0,yAK _,rfl,by rw[HO0.out];exact HR.out,HBK.out,hid (fun i h=>by omega)⟩
     case round=>
      obtain⟨k,hk,rfl,hr,hbk,HNE⟩:=hrel
      by_cases hlt:k<K
      ·have hkJ:k<J.length:=by rw[<- HKJ.out];exact hlt
       obtain⟨jb,jo,rfl,hjs,hcj⟩:=HJI.out k (by unfold zIJ;rw[yAS];exact hkJ)
       have hJk:jf J k=J[k]:=by unfold jf;rw[yAA hkJ];rfl
       have hcv:(zIJ J)[k]?.getD 0=((jf J k:Nat):Int):=by rw[hJk];unfold zIJ;simp[hkJ]
       rw[hcv]at hcj
       have hjw:wr.cell? ⟨jb,jo+k,none⟩=some (.int .i64 ((jf J k:Nat):Int)):=(hbk.cell (p:=⟨jb,jo+k,none⟩) hjs).trans hcj
       have hpl:=HJLT.out k hlt
       have hzp:=HJPOS.out k hlt
       have hos:=HOS.out k
       have hmem:jf J k=t->t∈J:=fun h=>by rw[hJk]at h;rw[<- h];exact yAH hkJ
       obtain⟨p,hp⟩:=exq (jf J k)
       rw[<- hp]at hjw hpl hzp hos hmem
       have HP:=hid hp
       clear hcj hcv hJk hp hkJ
       by_cases hpt:p=t
       ·have hse:=HOE.out
        rw[if_pos (hmem hpt)]at hse
        subst hse
        subst hpt
        have HBK:=hid hbk
        clear hr hbk hpl hzp hos hmem
        have i3:((p:Int)==(p:Int))=true:=by simp
        go_wp2
        go_ret3
        exact⟨.slice none 0 0,rfl,w.heap.size,yAC _,zEC.nil _ _,zAA HBW.out HBK.out⟩
       ·have hp2:p<t:=by omega
        obtain⟨db,doff,ra,rn,rc,rfl,hds,hdc,hrn,hrm,hri⟩:=HDA.out k (by rw[HDL.out];exact hlt)
        have hkD:k<D.length:=by rw[HDL.out];exact hlt
        have hrw:rn=t+1:=by rw[<- hrn];exact HDW.out _ (yAH _)
        have hvx:∀c,(D[k])[c]?.getD 0=vec (D[k]?.getD []) c:=fun c=>by rw[yAA hkD];rfl
        obtain⟨rb,ro,rfl,hrs,hcx⟩:=hri t (by omega)
        obtain⟨_,_,e2,_,hcz⟩:=hri p (by omega)
        cases e2
        rw[hvx]at hcx hcz
        have hbx:=zDY (P:=fun x=> -((1073741824:Nat):Int)<=x∧x<=((1073741824:Nat):Int)) (by omega) (HDB.out _ (yAH hkD))
        have hbx1:=hbx t
        have hbx2:=hbx p
        have hRk:D[k]?.getD []=D[k]:=by rw[yAA hkD];rfl
        rw[<- hRk]at hbx1 hbx2
        have HOf:=hid (fun(X:World)=>r3ratio_c X (vec (D[k]?.getD []) t) (vec (D[k]?.getD []) p) (by omega) (by omega) (by omega))
        obtain⟨x,hx⟩:=exq (vec (D[k]?.getD []) t)
        obtain⟨z,hz⟩:=exq (vec (D[k]?.getD []) p)
        rw[<- hx]at hcx HOf hos
        rw[<- hz]at hcz HOf hos
        obtain⟨Q,hQ⟩:=exq (zBF x z)
        rw[<- hQ]at HOf hos
        obtain⟨q1,q2⟩:=Q
        have HOSK:=hid hos
        have HOLK:=hid (HOL.out k)
        have HNE2:=hid (show ∀i,i<k+1->jf J i≠t from fun i hi=>by
         rcases yAP i k with h|h
         ·exact HNE.out i h
         ·obtain rfl:i=k:=by omega
          rw[<- HP.out];exact hpt)
        have HR:=hid hr
        have HBK:=hid hbk
        have HS:=hid (fun(X:World) (hX:Below w3.heap.size w3 X)=>show X.cell? ⟨db,doff+k,none⟩=some (.slice (some ⟨rb,ro,none⟩) rn rc)∧X.cell? ⟨rb,ro+t,none⟩=some (.int .i64 x)∧X.cell? ⟨rb,ro+p,none⟩=some (.int .i64 z)from
         ⟨(hX.cell (p:=⟨db,doff+k,none⟩) hds).trans hdc,(hX.cell (p:=⟨rb,ro+t,none⟩) hrs).trans hcx,(hX.cell (p:=⟨rb,ro+p,none⟩) hrs).trans hcz⟩)
        have i1:(k:Int)<(K:Int):=by omega
        have i2:(p:Int)<(rn:Int):=by omega
        have i4:(t:Int)<(rn:Int):=by omega
        have i5:(p:Int)<(t:Int):=by omega
        have i3:((p:Int)==(t:Int))=false:=by simp;omega
        simp only[ratV]at HOf
        clear hr hbk hzp hos hmem hbx hbx1 hbx2 hRk hx hz hQ hcx hcz hvx hri hrn hrw hdc hpl hpt
        go_wp2
        refine zAG (fun j' X=>wAll j'=true->X.cell? ⟨db,doff+k,none⟩=some (.slice (some ⟨rb,ro,none⟩) rn rc)∧X.cell? ⟨rb,ro+t,none⟩=some (.int .i64 x)∧X.cell? ⟨rb,ro+p,none⟩=some (.int .i64 z)) (by kernel_rfl) ?_
        have hbd:Below w3.heap.size w3 wr.drew:=HBK.out.drew
        have HR2:=hid (HR.out.keep (w':=wr.drew) rfl)
        generalize wr.drew=wd at hbd HR2⊢
        refine AnyT.tD (i:=0) (v:=.slice (some ⟨g,0,none⟩) t t) rfl rfl (by rintro w' ⟨y1,y2,y3⟩;go_simp) (HS.out _ hbd) ?_;go_frame
        refine AnyT.tD (i:=1) (v:=.int .i64 p) rfl rfl (by rintro w' ⟨y1,y2,y3⟩;go_simp) (HS.out _ hbd) ?_;go_frame
        refine AnyT.tD (i:=2) (v:=.slice (some ⟨db,doff,none⟩) K dc) rfl rfl (by rintro w' ⟨y1,y2,y3⟩;go_simp) (HS.out _ hbd) ?_;go_frame
        refine AnyT.tD (i:=3) (v:=.int .i64 k) rfl rfl (by rintro w' ⟨y1,y2,y3⟩;go_simp) (HS.out _ hbd) ?_;go_frame
        refine AnyT.tD (i:=4) (v:=.pointer (some ⟨db,doff+k,none⟩)) rfl rfl (by rintro w' ⟨y1,y2,y3⟩;go_simp) (HS.out _ hbd) ?_;go_frame
        refine AnyT.tD (i:=5) (v:=.slice (some ⟨rb,ro,none⟩) rn rc) rfl rfl (by rintro w' ⟨y1,y2,y3⟩;go_simp) (HS.out _ hbd) ?_;go_frame
        refine AnyT.tD (i:=6) (v:=.slice a2 t cap2) rfl rfl (by rintro w' ⟨y1,y2,y3⟩;go_simp) (HS.out _ hbd) ?_;go_frame
        refine AnyT.tD (i:=7) (v:=.int .i64 t) rfl rfl (by rintro w' ⟨y1,y2,y3⟩;go_simp) (HS.out _ hbd) ?_;go_frame
        refine AnyT.tD (i:=8) (v:=.pointer (some ⟨rb,ro+t,none⟩)) rfl rfl (by rintro w' ⟨y1,y2,y3⟩;go_simp) (HS.out _ hbd) ?_;go_frame
        refine AnyT.tD (i:=9) (v:=.int .i64 x) rfl rfl (by rintro w' ⟨y1,y2,y3⟩;go_simp) (HS.out _ hbd) ?_;go_frame
        refine AnyT.tD (i:=10) (v:=.slice (some ⟨db,doff,none⟩) K dc) rfl rfl (by rintro w' ⟨y1,y2,y3⟩;go_simp) (HS.out _ hbd) ?_;go_frame
        refine AnyT.tD (i:=11) (v:=.int .i64 k) rfl rfl (by rintro w' ⟨y1,y2,y3⟩;go_simp) (HS.out _ hbd) ?_;go_frame
        refine AnyT.tD (i:=12) (v:=.pointer (some ⟨db,doff+k,none⟩)) rfl rfl (by rintro w' ⟨y1,y2,y3⟩;go_simp) (HS.out _ hbd) ?_;go_frame
        refine AnyT.tD (i:=13) (v:=.slice (some ⟨rb,ro,none⟩) rn rc) rfl rfl (by rintro w' ⟨y1,y2,y3⟩;go_simp) (HS.out _ hbd) ?_;go_frame
        refine AnyT.tD (i:=14) (v:=.int .i64 p) rfl rfl (by rintro w' ⟨y1,y2,y3⟩;go_simp) (HS.out _ hbd) ?_;go_frame
        refine AnyT.tD (i:=15) (v:=.pointer (some ⟨rb,ro+p,none⟩)) rfl rfl (by rintro w' ⟨y1,y2,y3⟩;go_simp) (HS.out _ hbd) ?_;go_frame
        refine AnyT.tD (i:=16) (v:=.int .i64 z) rfl rfl (by rintro w' ⟨y1,y2,y3⟩;go_simp) (HS.out _ hbd) ?_;go_frame
        refine AnyT.nx (i:=17) rfl ?_
        go_wp2_with (go_at_call 250;refine(HOf.out _).mono ?_;rintro e w4 ⟨rfl,hbl4⟩;refine Stop.of ?_)
        refine Stop.go ?_
        have HB4:=hid (zAA hbd hbl4)
        have hr4:=HR2.out.keep (hbl4.block g HR2.out.lt)
        obtain⟨⟨z0,p0⟩,⟨z1,p1⟩,f0,f1⟩:(∃z,w4.cell? ⟨g,p*2,none⟩=some (.int .i64 z))∧(∃z,w4.cell? ⟨g,p*2+1,none⟩=some (.int .i64 z))∧w4.frozen? ⟨g,p*2,none⟩=false∧w4.frozen? ⟨g,p*2+1,none⟩=false:=by
         obtain⟨q0,q1,q2⟩:=hr4.cells (k:=p) (by rw[HOLK.out];exact hp2)
         exact⟨⟨_,q0⟩,⟨_,q1⟩,q2 _,q2 _⟩
        have hst:=hr4.set (k:=p) (by rw[HOLK.out];exact hp2) q1 q2
        have hbe:Below w3.heap.size w3 ((w4.setCell ⟨g,p*2,none⟩ (.int .i64 q1)).setCell ⟨g,p*2+1,none⟩ (.int .i64 q2)):=zAE (zAE HB4.out (by rw[HG.out];exact yAC _) _ _) (by rw[HG.out];exact yAC _) _ _
        have hgl:=hr4.lt
        rw[<- HOSK.out]at hst
        have HST:=hid hst
        have HBE:=hid hbe
        clear hbd hbl4 hst hbe hr4
        go_wp2
        refine⟨fun _=>HS.out _ HB4.out,?_⟩
        refine AnyT.nx (i:=18) rfl ?_
        go_wp2
        refine⟨fun _=>HS.out _ HB4.out,?_⟩
        refine AnyT.nx (i:=19) rfl ?_
        go_wp2
        refine⟨fun _=>HS.out _ HBE.out,?_⟩
        refine AnyT.done (by kernel_rfl) ?_ _
        go_wp2
        exact⟨⟨k+1,by omega,by go_num,HST.out,HBE.out,HNE2⟩,by simp[intOf];omega⟩
      ·obtain rfl:k=K:=by omega
       have htJ:t∉J:=fun h=>by
        obtain⟨i,hi,e⟩:=yAM.1 h
        refine HNE.out i (by rw[HKJ.out];exact hi) ?_
        unfold jf;rw[yAA hi];exact e
       have hse:=HOE.out
       rw[if_neg htJ]at hse
       subst hse
       have HRO:=hid (hr.own (base:=g) (HOL.out k) (by unfold maxLen;omega) (yAC _))
       have HBK:=hid hbk
       have hsub:IntKind.i64.wrap ((t:Int)-(k:Int))=(t:Int)-(k:Int):=IntWalk.i64_in _ (by omega)
       clear hr hbk htJ
       go_wp2
       go_ret3
       exact⟨_,rfl,g,by rw[HG.out];exact HBW.out.size,HRO.out,zAA HBW.out HBK.out⟩
end
section
open Go.RowKit
theorem solve_eq{M:Mask}{l y:List Int}(h:zAV M y l=0):zCC M l y=zPH (zAJ (zAO M l) y) l.length:=by
 obtain⟨hok,hyl,hmil,hso⟩:=zFV h
 obtain⟨hM,h1,h6,hc1,hc10⟩:=zCR hok
 unfold zCC
 rw[if_pos h]
 exact zPG ((hM.cols l).addY (y:=y) (by rw[zBA];omega) (Y:=1000000) (by omega) (zHZ hmil))
theorem r3Solve_c(w:World)(a a2 a3:Option Addr)(n cap n2 cap2 n3 cap3:Nat)(M:Mask)(l y:List Int)(hn:M.length=n)(hn2:l.length=n2)(hn3:y.length=n3)(hm:n<=maxLen)(hm2:n2<=maxLen)(hm3:n3<=maxLen)(H:zAM w a M)(H2:zAH w a2 l)(H3:zAH w a3 y):
 Calls Tryz.prog 175 #[.slice a n cap,.slice a2 n2 cap2,.slice a3 n3 cap3] w fun e w'=>∃v base,e=.returned (.tuple #[v,.int .i64 (zCC M l y).2])∧w.heap.size<=base∧zEC w' base v (zCC M l y).1∧Below w.heap.size w w':=by
 have HV:=hid (zND w a n cap M hn hm H)
 have hv:zAV M y l≠0->zCC M l y=([],zAV M y l):=fun h=>by unfold zCC;rw[if_neg h]
 cases hok:okM M
 ·rw[hok]at HV
  have he:zAV M y l=1:=by unfold zAV;rw[hok];rfl
  rw[hv (by rw[he];decide),he]
  clear hn hn2 hn3 H H2 H3 hok he hv
  go_enter Tryz.func175,Tryz.ntmps175
  go_wp2_with (go_at_call 68;refine HV.out.mono ?_;rintro e w1 ⟨rfl,rfl⟩)
  go_ret2
  exact⟨.slice none 0 0,w.heap.size,rfl,yAC _,zEC.nil _ _,Below.refl _ _⟩
 ·rw[hok]at HV
  by_cases hl:n3=n
  ·subst hl
   have hdl:((n3:Int) !=(n3:Int))=false:=by simp
   have HRD:=hid (fun(X:World) (hX:Below w.heap.size w X)=>zNC X a3 n3 cap n3 cap3 M y a hn hn3 hm (H3.below hX))
   have HNM:=hid (r3Named_c w a a2 n3 cap n2 cap2 M l hn hn2 hm2 H H2 hok)
   have hre:zMW M y=if milB y=true then 0 else 7:=by unfold zMW;rw[if_pos (by omega)]
   have hce:zAV M y l=if milB y=true then pixE M l else 7:=by unfold zAV;rw[if_pos hok,if_pos (by omega)]
   have hpx:pixE M l=zEE (zAD M) l:=by unfold pixE;rw[if_pos hok]
   rw[hre]at HRD
   cases hmil:milB y
   ·rw[hmil]at hce HRD
    simp only[Bool.false_eq_true,if_false]at hce HRD
    rw[hv (by rw[hce];decide),hce]
    have HRD2:=hid (HRD.out w (Below.refl _ _))
    clear hn hn2 hn3 H H2 H3 hok hce hv hmil hre hpx HNM HRD
    go_enter Tryz.func175,Tryz.ntmps175
    go_wp2_with (go_at_call 68;refine HV.out.mono ?_;rintro e w1 ⟨rfl,rfl⟩;refine Stop.of ?_)
    refine Stop.go ?_
    go_wp2_with (go_at_call 134;refine HRD2.out.mono ?_;rintro e w1 ⟨rfl,rfl⟩)
    go_ret2
    exact⟨.slice none 0 0,w.heap.size,rfl,yAC _,zEC.nil _ _,Below.refl _ _⟩
   ·rw[hmil]at hce HRD
    simp only[if_true]at hce HRD
    have HRD2:=hid (HRD.out w (Below.refl _ _))
    rw[<- hpx]at HNM
    by_cases hp:pixE M l=0
    ·have hc0:zAV M y l=0:=by rw[hce,hp]
     rw[solve_eq hc0]
     rw[hp]at HNM
     have HSO:=hid (fun(X:World) (hX:Below w.heap.size w X)=>r3solved_c X a a2 a3 n3 cap n2 cap2 cap3 M l y hn hn2 hn3 (H.below hX) (H2.below hX) (H3.below hX) hok hmil (pix_ok hp).2)
     have hsr:zPH (zAJ (zAO M l) y) l.length=if (zBR (zAJ (zAO M l) y) n2).2.2=false then([],8)else if 0<(zBR (zAJ (zAO M l) y) n2).2.1 then([],11)else((zBR (zAJ (zAO M l) y) n2).1,0):=by rw[hn2];rfl
     rw[hsr]
     obtain⟨⟨S1,S2,S3⟩,hS⟩:∃S,S=zBR (zAJ (zAO M l) y) n2:=⟨_,rfl⟩
     rw[<- hS]at HSO⊢
     simp only[]at HSO⊢
     obtain⟨⟨RL,RE⟩,hR⟩:∃R:List Rt×Int,R=if S3=false then([],8)else if 0<S2 then([],11)else(S1,0):=⟨_,rfl⟩
     rw[<- hR]
     simp only[]
     have HRR:=hid hR
     clear hR
     clear hn hn2 hn3 H H2 H3 hok hce hv hmil hre hpx HRD hc0 hsr hS hp
     go_enter Tryz.func175,Tryz.ntmps175
     go_wp2_with (go_at_call 68;refine HV.out.mono ?_;rintro e w1 ⟨rfl,rfl⟩;refine Stop.of ?_)
     refine Stop.go ?_
     go_wp2_with (go_at_call 134;refine HRD2.out.mono ?_;rintro e w1 ⟨rfl,rfl⟩;refine Stop.of ?_)
     refine Stop.go ?_
     go_wp2_with (go_at_call 115;refine HNM.out.mono ?_;rintro e w2 ⟨rfl,k2,rfl⟩;refine Stop.of ?_)
     refine Stop.go ?_
     have hb2:=zAI (Below.refl w.heap.size w) k2
     go_wp2_with (go_at_call 219;refine(HSO.out _ hb2).mono ?_;rintro e w3 ⟨v,base,rfl,hbs,hO,hb3⟩;refine Stop.of ?_)
     refine Stop.go ?_
     have hb:=zAA hb2 hb3
     have hbs':w.heap.size<=base:=yAF hb2.size hbs
     obtain⟨va,vc,rfl⟩:=zAC hO
     have HO:=hid hO
     clear hb2 hb3 hbs hO
     cases S3
     ·obtain⟨rfl,rfl⟩:=Prod.mk.inj (HRR.out.trans (if_pos rfl))
      go_wp2
      go_ret2
      exact⟨.slice none 0 0,rfl,w.heap.size,yAC _,zEC.nil _ _,hb⟩
     ·by_cases h0:0<S2
      ·obtain⟨rfl,rfl⟩:=Prod.mk.inj (HRR.out.trans ((if_neg (by decide)).trans (if_pos h0)))
       go_wp2
       go_ret2
       first|exact⟨.slice none 0 0,rfl,w.heap.size,yAC _,zEC.nil _ _,hb⟩|exact⟨.slice none 0 0,w.heap.size,rfl,yAC _,zEC.nil _ _,hb⟩
      ·obtain⟨rfl,rfl⟩:=Prod.mk.inj (HRR.out.trans ((if_neg (by decide)).trans (if_neg h0)))
       go_wp2
       go_ret2
       first|exact⟨_,rfl,base,hbs',HO.out,hb⟩|exact⟨_,base,rfl,hbs',HO.out,hb⟩
    ·have hc0:zAV M y l≠0:=by rw[hce];exact hp
     rw[hv hc0,hce]
     obtain⟨E,hE⟩:=exq (pixE M l)
     rw[<- hE]at HNM hp⊢
     have hpb:(E !=0)=true:=by simpa using hp
     clear hn hn2 hn3 H H2 H3 hok hce hv hmil hre hpx HRD hc0 hE
     go_enter Tryz.func175,Tryz.ntmps175
     go_wp2_with (go_at_call 68;refine HV.out.mono ?_;rintro e w1 ⟨rfl,rfl⟩;refine Stop.of ?_)
     refine Stop.go ?_
     go_wp2_with (go_at_call 134;refine HRD2.out.mono ?_;rintro e w1 ⟨rfl,rfl⟩;refine Stop.of ?_)
     refine Stop.go ?_
     go_wp2_with (go_at_call 115;refine HNM.out.mono ?_;rintro e w2 ⟨rfl,k2,rfl⟩)
     go_ret2
     exact⟨.slice none 0 0,w.heap.size,rfl,yAC _,zEC.nil _ _,zAI (Below.refl _ _) _⟩
  ·have hdl:((n3:Int) !=(n:Int))=true:=by simp;omega
   have he:zAV M y l=9:=by unfold zAV;rw[if_pos hok,if_neg (by omega)]
   rw[hv (by rw[he];decide),he]
   clear hn hn2 hn3 H H2 H3 hok he hv hl
   go_enter Tryz.func175,Tryz.ntmps175
   go_wp2_with (go_at_call 68;refine HV.out.mono ?_;rintro e w1 ⟨rfl,rfl⟩)
   go_ret2
   exact⟨.slice none 0 0,w.heap.size,rfl,yAC _,zEC.nil _ _,Below.refl _ _⟩
end
end
end
section
section
theorem zEV{α:Type}(f:Nat->α)(g:Nat->Nat)(l:List α):∀(K:Nat),((List.range K).foldl (fun out i=>out.set (g i) (f i)) l).length=l.length
 |0=>by simp
 |K+1=>by rw[yBQ,yCO];simp[zEV f g l K]
theorem zLO{α:Type}(f:Nat->α)(g:Nat->Nat)(l:List α):∀(K i:Nat),i<K->g i<l.length->(∀a b,a<b->b<K->g a≠g b)->((List.range K).foldl (fun out i=>out.set (g i) (f i)) l)[g i]? =some (f i)
 |0,i,h,_,_=>by omega
 |K+1,i,h,hl,hd=>by
  rw[yBQ,yCO]
  simp only[yDC,yCR]
  by_cases e:i=K
  ·subst e
   rw[yDK (by rw[zEV];exact hl)]
  ·rw[yCI (fun e2=>hd i K (by omega) (by omega) e2.symm)]
   exact zLO f g l K i (by omega) hl (fun a b h1 h2=>hd a b h1 (by omega))
end
section
open Go.RowKit
def rdE(M:Mask)(y:List Int):Int:=if okM M=true then zMW M y else 1
theorem zQW(M:Mask)(y:List Int):rdE M y=zAV M y []:=by
 unfold rdE zAV zMW pixE zEE
 cases okM M<;>simp[ascB]
theorem zOV{M:Mask}{y:List Int}(h:rdE M y=0):okM M=true∧y.length=M.length∧milB y=true:=by
 rw[zQW]at h
 obtain⟨h1,h2,h3,_⟩:=zFV h
 exact⟨h1,h2,h3⟩
theorem r3Read_c(w:World)(a a2:Option Addr)(n cap n2 cap2:Nat)(M:Mask)(y:List Int)(hn:M.length=n)(hn2:y.length=n2)(hm:n<=maxLen)(hm2:n2<=maxLen)(H:zAM w a M)(H2:zAH w a2 y):
 Calls Tryz.prog 71 #[.slice a n cap,.slice a2 n2 cap2] w fun e w'=>e=.returned (.int .i64 (rdE M y))∧w=w':=by
 have HV:=hid (zND w a n cap M hn hm H)
 have HR:=hid (zNC w a2 n cap n2 cap2 M y a hn hn2 hm2 H2)
 unfold rdE
 cases hok:okM M
 ·rw[hok]at HV
  simp only[Bool.false_eq_true,if_false]
  clear hn hn2 H H2 hok HR
  go_enter Tryz.func71,Tryz.ntmps71
  go_wp2_with (go_at_call 68;refine HV.out.mono ?_;rintro e w1 ⟨rfl,rfl⟩)
  go_ret
  exact⟨rfl,rfl⟩
 ·rw[hok]at HV
  simp only[if_true]
  clear hn hn2 H H2 hok
  go_enter Tryz.func71,Tryz.ntmps71
  go_wp2_with (go_at_call 68;refine HV.out.mono ?_;rintro e w1 ⟨rfl,rfl⟩;refine Stop.of ?_)
  refine Stop.go ?_
  go_wp2_with (go_at_call 134;refine HR.out.mono ?_;rintro e w1 ⟨rfl,rfl⟩;refine Stop.of ?_)
  refine Stop.go ?_
  go_wp2
  go_ret
  exact⟨rfl,rfl⟩
end
section
open Go.RowKit
end
section
open Go.RowKit
theorem check_one{M:Mask}{y:List Int}(p:Int):zAV M y [p]=if rdE M y=0 then(if inB p 0 ((zAD M:Int)-1)=true then 0 else 5)else rdE M y:=by
 unfold zAV rdE zMW pixE
 cases hok:okM M
 ·simp
 ·simp only[if_true]
  by_cases h1:y.length=M.length
  ·rw[if_pos h1,if_pos h1]
   cases h2:milB y
   ·simp
   ·simp only[if_true]
    have:ascB [p]=true:=by unfold ascB;simp
    simp[zEE,this]
  ·rw[if_neg h1,if_neg h1];simp
end
end
section
open Go.RowKit
open Classical in
noncomputable def lift (W X:World):World:=if Below W.heap.size W X then X else W
theorem zDI(W X:World):Below W.heap.size W (lift W X):=by
 unfold lift;split
 ·assumption
 ·exact Below.refl _ _
theorem lift_of{W X:World}(h:Below W.heap.size W X):X=lift W X:=by unfold lift;rw[if_pos h]
theorem zAY{W:World}{b o:Nat}{v:Value}(hb:b<W.heap.size)(h:W.cell? ⟨b,o,none⟩=some v):∀X,(lift W X).cell? ⟨b,o,none⟩=some v:=fun X=>((zDI W X).cell (p:=⟨b,o,none⟩) hb).trans h
theorem zCH{P:Program}{f:FuncId}{args:Array Value}{W X:World}{v:Value}(h:Calls P f args (lift W X) fun e w'=>e=.returned v∧Below (lift W X).heap.size (lift W X) w'):
 Calls P f args (lift W X) fun e w''=>e=.returned v∧∃Y,w''=lift W Y:=
 h.mono fun e w' ⟨he,hb⟩=>⟨he,w',lift_of (zAA (zDI W X) hb)⟩
theorem zDR{P:Program}{id:Nat}{Q:Exit->Act->World->Prop}{a:Act}{w:World}{l:List Oper}(hm:P.follows .mixedOrders=true)(hB:Region.lexB .any l.toArray=true)
 (h:wpQuiet P l.toArray (fun w'=>∃X,w'=lift w X) (fun a'=>∀w',(∃X,w'=lift w X)->Q .normal a' w') l a):(Code.region id l.toArray true).wp P Q a w:=
 wp_region_quiet (C:=fun w'=>∃X,w'=lift w X) hm hB ⟨_,lift_of (⟨rfl,rfl,rfl,yAC _,fun _ _=>rfl⟩:Below w.heap.size w {w with drawn:=w.drawn+1})⟩ (by simpa using h)
end
section
section
open Go.RowKit Go.Lib
def zCN(V:Int):Value:=.agg #[.int .i64 (V/18446744073709551616),.int .u64 (V%18446744073709551616)]
def cmpI(V U:Int):Int:=if V<U then-1 else if V=U then 0 else 1
theorem size_c(w:World)(n:Int)(h: -9223372036854775808<=n∧n<=9223372036854775807):Calls Tryz.prog 210 #[.int .i64 n] w fun e w'=>e=.returned (.int .u64 (n.natAbs:Nat))∧w=w':=by
 obtain⟨m,hm⟩:∃m:Int,m=(n.natAbs:Nat):=⟨_,rfl⟩
 rw[<- hm]
 by_cases h0:n<0
 ·have h1:IntKind.u64.wrap n=18446744073709551616+n:=by rw[IntKind.wrap_u64];omega
  have h2:IntKind.u64.wrap (-(18446744073709551616+n))=m:=by rw[IntKind.wrap_u64];omega
  clear hm
  go_enter Tryz.func210,Tryz.ntmps210
  go_wp2
  go_ret
  exact⟨rfl,rfl⟩
 ·have h1:IntKind.u64.wrap n=m:=by rw[IntKind.wrap_u64];omega
  clear hm
  go_enter Tryz.func210,Tryz.ntmps210
  go_wp2
  go_ret
  exact⟨rfl,rfl⟩
theorem mul64_c(x y:Nat)(hx:x<18446744073709551616)(hy:y<18446744073709551616)(w:World):
 Calls Tryz.prog 209 #[.int .u64 x,.int .u64 y] w fun e w'=>e=.returned (.tuple #[.int .u64 ((x*y/18446744073709551616:Nat):Int),.int .u64 ((x*y%18446744073709551616:Nat):Int)])∧w=w':=by
 obtain⟨bd,bt,bw,hhi⟩:=mul64_hi x y hx hy
 have ba:=half_mul_le (a:=x/4294967296) (b:=y/4294967296) (by omega) (by omega)
 have bb:=half_mul_le (a:=x/4294967296) (b:=y%4294967296) (by omega) (by omega)
 have bc:=half_mul_le (a:=x%4294967296) (b:=y/4294967296) (by omega) (by omega)
 have ba':x/4294967296*(y/4294967296)<18446744073709551616:=by omega
 have bb':x/4294967296*(y%4294967296)<18446744073709551616:=by omega
 have bc':x%4294967296*(y/4294967296)<18446744073709551616:=by omega
 have bh1:x/4294967296*(y/4294967296)+(x/4294967296*(y%4294967296)+x%4294967296*(y%4294967296)/4294967296)/4294967296<18446744073709551616:=by omega
 have bh:x/4294967296*(y/4294967296)+(x/4294967296*(y%4294967296)+x%4294967296*(y%4294967296)/4294967296)/4294967296+((x/4294967296*(y%4294967296)+x%4294967296*(y%4294967296)/4294967296)%4294967296+x%4294967296*(y/4294967296))/4294967296<18446744073709551616:=by omega
 go_enter Tryz.func209,Tryz.ntmps209
 go_wp2
 simp only[Mul64.maskN x hx,Mul64.maskN y hy,Mul64.divN,Mul64.mulN,Mul64.addN,Mul64.wrapN _ bd,Mul64.wrapN _ bb',Mul64.wrapN _ bt,Mul64.maskN _ bt,Mul64.wrapN _ bc',Mul64.wrapN _ bw,Mul64.wrapN _ ba',Mul64.wrapN _ bh1,Mul64.wrapN _ bh,Mul64.wrapM (x*y)]
 rw[hhi]
 go_ret2
 exact⟨rfl,rfl⟩
theorem sub64(x y b:Int)(hx:0<=x)(hy:0<=y)(hy':y<18446744073709551616)(hb0:0<=b)(hb:b<=1)(w:World):(callFunc 208 #[.int .u64 x,.int .u64 y,.int .u64 b]).run Tryz.prog w=
 .ok (.value (.tuple #[.int .u64 ((x-y-b)%18446744073709551616),.int .u64 (if x<y+b then 1 else 0)])) w:=by
 obtain⟨x,rfl⟩:=yES hx
 obtain⟨y,rfl⟩:=yES hy
 obtain⟨b,rfl⟩:=yES hb0
 have e1:(((x+18446744073709551616-y-b)%18446744073709551616:Nat):Int)=((x:Int)-y-b)%18446744073709551616:=by omega
 have e2:((if x<y+b then 1 else 0:Nat):Int)=if (x:Int)<y+b then 1 else 0:=by split<;>split<;>omega
 rw[<- e1,<- e2]
 rw[run_callFunc_extern Tryz.func208 (by kernel_rfl) (by kernel_rfl) (by kernel_rfl) (e:=sub64Entry) (by kernel_rfl),run_sub64 x y b (by omega)]
 rfl
theorem sub64_0(x y:Int)(hx:0<=x)(hy:0<=y)(hy':y<18446744073709551616)(w:World):(callFunc 208 #[.int .u64 x,.int .u64 y,.int .u64 0]).run Tryz.prog w=
 .ok (.value (.tuple #[.int .u64 ((x-y)%18446744073709551616),.int .u64 (if x<y then 1 else 0)])) w:=by
 simpa using sub64 x y 0 hx hy hy' (yDE 0) (by decide) w
theorem opp_c(w:World)(h l:Int)(h0:0<=h)(h1:h<=4611686018427387904)(l0:0<=l)(l1:l<18446744073709551616):
 Calls Tryz.prog 149 #[.agg #[.int .i64 h,.int .u64 l]] w fun e w'=>e=.returned (zCN (-(h*18446744073709551616+l)))∧Below w.heap.size w w':=by
 obtain⟨b,hb⟩:∃b:Int,b=if (0:Int)<l then 1 else 0:=⟨_,rfl⟩
 have b0:0<=b:=by rw[hb];split<;>decide
 have b1:b<=1:=by rw[hb];split<;>decide
 have hL:(0-l)%18446744073709551616=(-(h*18446744073709551616+l))%18446744073709551616:=by omega
 have hH:IntKind.i64.wrap ((0-h-b)%18446744073709551616)=(-(h*18446744073709551616+l))/18446744073709551616:=by
  rw[IntKind.wrap_i64]
  rcases yBK 0 l with hl|hl
  ·rw[if_pos hl]at hb;subst hb;omega
  ·rw[if_neg (by omega)]at hb;subst hb;omega
 have hu:IntKind.u64.wrap h=h:=by rw[IntKind.wrap_u64];omega
 have s1:∀w,(callFunc 208 #[.int .u64 0,.int .u64 l,.int .u64 0]).run Tryz.prog w=.ok (.value (.tuple #[.int .u64 ((-(h*18446744073709551616+l))%18446744073709551616),.int .u64 b])) w:=fun w=>by
  rw[sub64_0 0 l (by decide) l0 l1,<- hb,hL]
 have s2:∀w,(callFunc 208 #[.int .u64 0,.int .u64 h,.int .u64 b]).run Tryz.prog w=.ok (.value (.tuple #[.int .u64 ((0-h-b)%18446744073709551616),.int .u64 (if 0<h+b then 1 else 0)])) w:=fun w=>sub64 0 h b (by decide) h0 (by omega) b0 b1 w
 obtain⟨bo,hbo⟩:∃bo:Int,bo=if 0<h+b then 1 else 0:=⟨_,rfl⟩
 rw[<- hbo]at s2
 unfold zCN
 obtain⟨R1,hR1⟩:=exq ((-(h*18446744073709551616+l))/18446744073709551616)
 obtain⟨R2,hR2⟩:=exq ((-(h*18446744073709551616+l))%18446744073709551616)
 obtain⟨R3,hR3⟩:=exq ((0-h-b)%18446744073709551616)
 rw[<- hR2]at s1
 rw[<- hR3]at s2 hH
 rw[<- hR1]at hH
 rw[<- hR1,<- hR2]
 clear hL hb hbo hR1 hR2 hR3 b0 b1
 go_enter Tryz.func149,Tryz.ntmps149
 go_wp2_with (first|simp only[s1]|simp only[s2])
 simp[bodyPost,results,Tryz.results149,go_sem]
 exact((Below.refl _ _).alloc (yAC _) _).alloc (by simp) _
theorem cmp_lex{V U:Int}:(V/18446744073709551616<U/18446744073709551616->V<U)∧(U/18446744073709551616<V/18446744073709551616->U<V)∧
 (V/18446744073709551616=U/18446744073709551616->V%18446744073709551616<U%18446744073709551616->V<U)∧(V/18446744073709551616=U/18446744073709551616->U%18446744073709551616<V%18446744073709551616->U<V)∧
 (V/18446744073709551616=U/18446744073709551616->V%18446744073709551616=U%18446744073709551616->V=U):=by omega
theorem zEF(w:World)(V U:Int):Calls Tryz.prog 207 #[zCN V,zCN U] w fun e w'=>e=.returned (.int .i64 (cmpI V U))∧Below w.heap.size w w':=by
 obtain⟨k1,k2,k3,k4,k5⟩:=cmp_lex (V:=V) (U:=U)
 unfold zCN
 obtain⟨h,hh⟩:=exq (V/18446744073709551616)
 obtain⟨l,hl⟩:=exq (V%18446744073709551616)
 obtain⟨h',hh'⟩:∃h,h=U/18446744073709551616:=⟨_,rfl⟩
 obtain⟨l',hl'⟩:∃h,h=U%18446744073709551616:=⟨_,rfl⟩
 rw[<- hh,<- hl,<- hh',<- hl']
 rw[<- hh,<- hh']at k1 k2 k3 k4 k5
 rw[<- hl,<- hl']at k3 k4 k5
 clear hh hl hh' hl'
 obtain⟨C,hC⟩:=exq (cmpI V U)
 rw[<- hC]
 have HBL:=hid (show Below w.heap.size w ((w.alloc (.cells #[.int .i64 h,.int .u64 l] 100)).alloc (.cells #[.int .i64 h',.int .u64 l'] 100))from((Below.refl _ _).alloc (yAC _) _).alloc (by simp) _)
 rcases yBS h h' with c1|c1|c1
 ·have hv:=k1 c1
  obtain rfl:C= -1:=by rw[hC];unfold cmpI;rw[if_pos hv]
  have hne:(h==h')=false:=by simp;omega
  have hne2:¬h=h':=by omega
  clear hC k1 k2 k3 k4 k5
  go_enter Tryz.func207,Tryz.ntmps207
  go_wp2
  go_ret
  exact⟨rfl,HBL.out⟩
 ·subst c1
  rcases yBS l l' with c2|c2|c2
  ·have hv:=k3 rfl c2
   obtain rfl:C= -1:=by rw[hC];unfold cmpI;rw[if_pos hv]
   have hne:(l==l')=false:=by simp;omega
   have hne2:¬l=l':=by omega
   clear hC k1 k2 k3 k4 k5
   go_enter Tryz.func207,Tryz.ntmps207
   go_wp2
   go_ret
   exact⟨rfl,HBL.out⟩
  ·subst c2
   have hv:=k5 rfl rfl
   obtain rfl:C=0:=by rw[hC];unfold cmpI;rw[if_neg (by omega),if_pos hv]
   clear hC k1 k2 k3 k4 k5
   go_enter Tryz.func207,Tryz.ntmps207
   go_wp2
   go_ret
   exact⟨rfl,HBL.out⟩
  ·have hv:=k4 rfl c2
   obtain rfl:C=1:=by rw[hC];unfold cmpI;rw[if_neg (by omega),if_neg (by omega)]
   have hne:(l==l')=false:=by simp;omega
   have hne2:¬l=l':=by omega
   have hnl:¬l<l':=by omega
   clear hC k1 k2 k3 k4 k5
   go_enter Tryz.func207,Tryz.ntmps207
   go_wp2
   go_ret
   exact⟨rfl,HBL.out⟩
 ·have hv:=k2 c1
  obtain rfl:C=1:=by rw[hC];unfold cmpI;rw[if_neg (by omega),if_neg (by omega)]
  have hne:(h==h')=false:=by simp;omega
  have hne2:¬h=h':=by omega
  have hnl:¬h<h':=by omega
  clear hC k1 k2 k3 k4 k5
  go_enter Tryz.func207,Tryz.ntmps207
  go_wp2
  go_ret
  exact⟨rfl,HBL.out⟩
theorem prod_sign(a b:Int):((decide (a<0) !=decide (b<0))=true->a*b= -(((a.natAbs*b.natAbs:Nat):Int)))∧((decide (a<0) !=decide (b<0))=false->a*b=((a.natAbs*b.natAbs:Nat):Int)):=by
 rw[yCP]
 rcases yBK a 0 with h1|h1<;>rcases yBK b 0 with h2|h2
 ·have e1:((a.natAbs:Nat):Int)= -a:=by omega
  have e2:((b.natAbs:Nat):Int)= -b:=by omega
  rw[e1,e2]
  simp[h1,h2]
  try grind
 ·have e1:((a.natAbs:Nat):Int)= -a:=by omega
  have e2:((b.natAbs:Nat):Int)=b:=by omega
  rw[e1,e2]
  simp[h1,Int.not_lt.2 h2]
  try grind
 ·have e1:((a.natAbs:Nat):Int)=a:=by omega
  have e2:((b.natAbs:Nat):Int)= -b:=by omega
  rw[e1,e2]
  simp[Int.not_lt.2 h1,h2]
  try grind
 ·have e1:((a.natAbs:Nat):Int)=a:=by omega
  have e2:((b.natAbs:Nat):Int)=b:=by omega
  rw[e1,e2]
  simp[Int.not_lt.2 h1,Int.not_lt.2 h2]
theorem zJF(w:World)(a b:Int)(ha: -9223372036854775808<=a∧a<=9223372036854775807)(hb: -9223372036854775808<=b∧b<=9223372036854775807):
 Calls Tryz.prog 235 #[.int .i64 a,.int .i64 b] w fun e w'=>e=.returned (zCN (a*b))∧Below w.heap.size w w':=by
 obtain⟨s1,s2⟩:=prod_sign a b
 have HS1:=hid (fun X=>size_c X a ha)
 have HS2:=hid (fun X=>size_c X b hb)
 obtain⟨x,hx⟩:=exq (a.natAbs)
 obtain⟨y,hy⟩:=exq (b.natAbs)
 rw[<- hx,<- hy]at s1 s2
 rw[<- hx]at HS1
 rw[<- hy]at HS2
 have hx1:x<=9223372036854775808:=by omega
 have hy1:y<=9223372036854775808:=by omega
 have hp:x*y<=9223372036854775808*9223372036854775808:=yAV hx1 hy1
 have HM:=hid (fun X=>mul64_c x y (by omega) (by omega) X)
 obtain⟨P,hP⟩:=exq (x*y)
 rw[<- hP]at s1 s2 hp HM
 obtain⟨H,hH⟩:∃H:Int,H=((P/18446744073709551616:Nat):Int):=⟨_,rfl⟩
 obtain⟨Lo,hLo⟩:∃H:Int,H=((P%18446744073709551616:Nat):Int):=⟨_,rfl⟩
 rw[<- hH,<- hLo]at HM
 have h0:0<=H:=by omega
 have h1:H<=4611686018427387904:=by omega
 have l0:0<=Lo:=by omega
 have l1:Lo<18446744073709551616:=by omega
 have hw:IntKind.i64.wrap H=H:=IntWalk.i64_in _ (by omega)
 have heq:H*18446744073709551616+Lo=(P:Int):=by omega
 have HO:=hid (fun X=>opp_c X H Lo h0 h1 l0 l1)
 rw[heq]at HO
 have hwv:zCN (P:Int)=.agg #[.int .i64 H,.int .u64 Lo]:=by
  unfold zCN
  rw[show(P:Int)/18446744073709551616=H by omega,show(P:Int)%18446744073709551616=Lo by omega]
 by_cases ha0:a<0<;>by_cases hb0:b<0
 ·skip
  have hd1:decide (a<0)=true:=by simp[ha0]
  have hd2:decide (b<0)=true:=by simp[hb0]
  have e:=s2 (by simp[ha0,hb0])
  rw[e,hwv]
  clear s1 s2 hx hy hP hH hLo heq hwv e HO hp
  go_enter Tryz.func235,Tryz.ntmps235
  go_wp2_with (go_at_call 210;refine(HS1.out _).mono ?_;rintro e w1 ⟨rfl,rfl⟩;refine Stop.of ?_)
  refine Stop.go ?_
  go_wp2_with (go_at_call 210;refine(HS2.out _).mono ?_;rintro e w1 ⟨rfl,rfl⟩;refine Stop.of ?_)
  refine Stop.go ?_
  go_wp2_with (go_at_call 209;refine(HM.out _).mono ?_;rintro e w1 ⟨rfl,rfl⟩;refine Stop.of ?_)
  refine Stop.go ?_
  go_wp2
  simp[bodyPost,results,Tryz.results235,go_sem]
  exact((Below.refl _ _).alloc (yAC _) _).alloc (by simp) _
 ·skip
  have hd1:decide (a<0)=true:=by simp[ha0]
  have hd2:decide (b<0)=false:=by simp[hb0]
  have e:=s1 (by simp[ha0,hb0])
  rw[e]
  obtain⟨R1,hR1⟩:=exq ((-(P:Int))/18446744073709551616)
  obtain⟨R2,hR2⟩:=exq ((-(P:Int))%18446744073709551616)
  have hwn:zCN (-(P:Int))=.agg #[.int .i64 R1,.int .u64 R2]:=by unfold zCN;rw[hR1,hR2]
  rw[hwn]at HO⊢
  clear s1 s2 hx hy hP hH hLo heq hwv e hp hR1 hR2 hwn
  go_enter Tryz.func235,Tryz.ntmps235
  go_wp2_with (go_at_call 210;refine(HS1.out _).mono ?_;rintro e w1 ⟨rfl,rfl⟩;refine Stop.of ?_)
  refine Stop.go ?_
  go_wp2_with (go_at_call 210;refine(HS2.out _).mono ?_;rintro e w1 ⟨rfl,rfl⟩;refine Stop.of ?_)
  refine Stop.go ?_
  go_wp2_with (go_at_call 209;refine(HM.out _).mono ?_;rintro e w1 ⟨rfl,rfl⟩;refine Stop.of ?_)
  refine Stop.go ?_
  go_wp2_with (go_at_call 149;refine(HO.out _).mono ?_;rintro e w2 ⟨rfl,hb2⟩;refine Stop.of ?_)
  refine Stop.go ?_
  have hba:Below w.heap.size w ((w.alloc (.cells #[.int .i64 0,.int .u64 0] 100)).alloc (.cells #[.int .i64 H,.int .u64 Lo] 100)):=((Below.refl _ _).alloc (yAC _) _).alloc (by simp) _
  have hbx:=zAA hba hb2
  have c0:w2.cell? ⟨w.heap.size,0,none⟩=some (.int .i64 0):=((bcell hb2).1 w.heap.size 0 (by simp;omega)).trans (by rw[World.cell?_alloc_past _ _ _ (by simp),World.cell?_alloc_at _ _ _ _ rfl];rfl)
  have c1:w2.cell? ⟨w.heap.size,1,none⟩=some (.int .u64 0):=((bcell hb2).1 w.heap.size 1 (by simp;omega)).trans (by rw[World.cell?_alloc_past _ _ _ (by simp),World.cell?_alloc_at _ _ _ _ rfl];rfl)
  have hlt2:w.heap.size<w2.heap.size:=by have:=hb2.size;simp at this;omega
  have f0:w2.frozen? ⟨w.heap.size,0,none⟩=false:=((bcell hb2).2 w.heap.size 0 (by simp;omega)).trans (by simp[go_sem])
  have f1:w2.frozen? ⟨w.heap.size,1,none⟩=false:=((bcell hb2).2 w.heap.size 1 (by simp;omega)).trans (by simp[go_sem])
  go_wp2
  simp[bodyPost,results,Tryz.results235,go_sem,c0,c1,f0,f1,hlt2]
  exact zAE (zAE hbx (yAC _) 0 _) (yAC _) 1 _
 ·skip
  have hd1:decide (a<0)=false:=by simp[ha0]
  have hd2:decide (b<0)=true:=by simp[hb0]
  have e:=s1 (by simp[ha0,hb0])
  rw[e]
  obtain⟨R1,hR1⟩:=exq ((-(P:Int))/18446744073709551616)
  obtain⟨R2,hR2⟩:=exq ((-(P:Int))%18446744073709551616)
  have hwn:zCN (-(P:Int))=.agg #[.int .i64 R1,.int .u64 R2]:=by unfold zCN;rw[hR1,hR2]
  rw[hwn]at HO⊢
  clear s1 s2 hx hy hP hH hLo heq hwv e hp hR1 hR2 hwn
  go_enter Tryz.func235,Tryz.ntmps235
  go_wp2_with (go_at_call 210;refine(HS1.out _).mono ?_;rintro e w1 ⟨rfl,rfl⟩;refine Stop.of ?_)
  refine Stop.go ?_
  go_wp2_with (go_at_call 210;refine(HS2.out _).mono ?_;rintro e w1 ⟨rfl,rfl⟩;refine Stop.of ?_)
  refine Stop.go ?_
  go_wp2_with (go_at_call 209;refine(HM.out _).mono ?_;rintro e w1 ⟨rfl,rfl⟩;refine Stop.of ?_)
  refine Stop.go ?_
  go_wp2_with (go_at_call 149;refine(HO.out _).mono ?_;rintro e w2 ⟨rfl,hb2⟩;refine Stop.of ?_)
  refine Stop.go ?_
  have hba:Below w.heap.size w ((w.alloc (.cells #[.int .i64 0,.int .u64 0] 100)).alloc (.cells #[.int .i64 H,.int .u64 Lo] 100)):=((Below.refl _ _).alloc (yAC _) _).alloc (by simp) _
  have hbx:=zAA hba hb2
  have c0:w2.cell? ⟨w.heap.size,0,none⟩=some (.int .i64 0):=((bcell hb2).1 w.heap.size 0 (by simp;omega)).trans (by rw[World.cell?_alloc_past _ _ _ (by simp),World.cell?_alloc_at _ _ _ _ rfl];rfl)
  have c1:w2.cell? ⟨w.heap.size,1,none⟩=some (.int .u64 0):=((bcell hb2).1 w.heap.size 1 (by simp;omega)).trans (by rw[World.cell?_alloc_past _ _ _ (by simp),World.cell?_alloc_at _ _ _ _ rfl];rfl)
  have hlt2:w.heap.size<w2.heap.size:=by have:=hb2.size;simp at this;omega
  have f0:w2.frozen? ⟨w.heap.size,0,none⟩=false:=((bcell hb2).2 w.heap.size 0 (by simp;omega)).trans (by simp[go_sem])
  have f1:w2.frozen? ⟨w.heap.size,1,none⟩=false:=((bcell hb2).2 w.heap.size 1 (by simp;omega)).trans (by simp[go_sem])
  go_wp2
  simp[bodyPost,results,Tryz.results235,go_sem,c0,c1,f0,f1,hlt2]
  exact zAE (zAE hbx (yAC _) 0 _) (yAC _) 1 _
 ·skip
  have hd1:decide (a<0)=false:=by simp[ha0]
  have hd2:decide (b<0)=false:=by simp[hb0]
  have e:=s2 (by simp[ha0,hb0])
  rw[e,hwv]
  clear s1 s2 hx hy hP hH hLo heq hwv e HO hp
  go_enter Tryz.func235,Tryz.ntmps235
  go_wp2_with (go_at_call 210;refine(HS1.out _).mono ?_;rintro e w1 ⟨rfl,rfl⟩;refine Stop.of ?_)
  refine Stop.go ?_
  go_wp2_with (go_at_call 210;refine(HS2.out _).mono ?_;rintro e w1 ⟨rfl,rfl⟩;refine Stop.of ?_)
  refine Stop.go ?_
  go_wp2_with (go_at_call 209;refine(HM.out _).mono ?_;rintro e w1 ⟨rfl,rfl⟩;refine Stop.of ?_)
  refine Stop.go ?_
  go_wp2
  simp[bodyPost,results,Tryz.results235,go_sem]
  exact((Below.refl _ _).alloc (yAC _) _).alloc (by simp) _
end
section
open Go.RowKit
def dF(d:Int):Int:=if d<1 then 1 else d
def cmpR(an ad bn bd:Int):Int:=cmpI (an*dF bd) (bn*dF ad)
def F64(n:Int):Prop:= -9223372036854775808<=n∧n<=9223372036854775807
theorem fcompare_c(w:World)(an ad bn bd:Int)(h1:F64 an)(h2:F64 ad)(h3:F64 bn)(h4:F64 bd):
 Calls Tryz.prog 198 #[.agg #[.int .i64 an,.int .i64 ad],.agg #[.int .i64 bn,.int .i64 bd]] w fun e w'=>e=.returned (.int .i64 (cmpR an ad bn bd))∧Below w.heap.size w w':=by
 obtain⟨h1a,h1b⟩:=h1
 obtain⟨h2a,h2b⟩:=h2
 obtain⟨h3a,h3b⟩:=h3
 obtain⟨h4a,h4b⟩:=h4
 unfold cmpR dF
 by_cases c1:ad<1<;>by_cases c2:bd<1
 ·rw[if_pos c1,if_pos c2]
  obtain⟨C,hC⟩:=exq (cmpI (an*1) (bn*1))
  rw[<- hC]
  have HCC:=hid hC
  obtain⟨wz,hwz⟩:=exq ((w.alloc (.cells #[.int .i64 an,.int .i64 1] 29)).alloc (.cells #[.int .i64 bn,.int .i64 1] 29))
  have hbz:Below w.heap.size w wz:=by rw[hwz];exact((Below.refl _ _).alloc (yAC _) _).alloc (by simp) _
  have hsz:wz.heap.size=w.heap.size+2:=by rw[hwz];simp
  have l0:=zAY (W:=wz) (b:=w.heap.size) (o:=0) (by omega) (show wz.cell? ⟨w.heap.size,0,none⟩=some (.int .i64 an)by rw[hwz,World.cell?_alloc_past _ _ _ (by simp),World.cell?_alloc_at _ _ _ _ rfl];rfl)
  have l1:=zAY (W:=wz) (b:=w.heap.size) (o:=1) (by omega) (show wz.cell? ⟨w.heap.size,1,none⟩=some (.int .i64 1)by rw[hwz,World.cell?_alloc_past _ _ _ (by simp),World.cell?_alloc_at _ _ _ _ rfl];rfl)
  have l2:=zAY (W:=wz) (b:=w.heap.size+1) (o:=0) (by omega) (show wz.cell? ⟨w.heap.size+1,0,none⟩=some (.int .i64 bn)by rw[hwz,World.cell?_alloc_at _ _ _ _ (by simp)];rfl)
  have l3:=zAY (W:=wz) (b:=w.heap.size+1) (o:=1) (by omega) (show wz.cell? ⟨w.heap.size+1,1,none⟩=some (.int .i64 1)by rw[hwz,World.cell?_alloc_at _ _ _ _ (by simp)];rfl)
  have HWZ:=hid hwz
  have HBZ:=hid hbz
  clear hC hwz hbz hsz
  go_enter Tryz.func198,Tryz.ntmps198
  go_wp2
  rw[<- HWZ.out]
  refine zDR (by kernel_rfl) (by kernel_rfl) ?_
  repeat (go_big_quiet_step (first
   | (go_at_call 235;exact zCH (zJF _ _ _ (by omega) (by omega)))
   | (go_at_call 207;exact zCH (zEF _ _ _))))
  refine wpQuiet_nil ?_
  rintro _ ⟨X,rfl⟩
  have hfin:=zAA HBZ.out (zDI wz X)
  go_wp2
  go_ret
  exact⟨zDC (by rw[HCC.out];try simp),hfin⟩
 ·rw[if_pos c1,if_neg c2]
  obtain⟨C,hC⟩:=exq (cmpI (an*bd) (bn*1))
  rw[<- hC]
  have HCC:=hid hC
  obtain⟨wz,hwz⟩:=exq ((w.alloc (.cells #[.int .i64 an,.int .i64 1] 29)).alloc (.cells #[.int .i64 bn,.int .i64 bd] 29))
  have hbz:Below w.heap.size w wz:=by rw[hwz];exact((Below.refl _ _).alloc (yAC _) _).alloc (by simp) _
  have hsz:wz.heap.size=w.heap.size+2:=by rw[hwz];simp
  have l0:=zAY (W:=wz) (b:=w.heap.size) (o:=0) (by omega) (show wz.cell? ⟨w.heap.size,0,none⟩=some (.int .i64 an)by rw[hwz,World.cell?_alloc_past _ _ _ (by simp),World.cell?_alloc_at _ _ _ _ rfl];rfl)
  have l1:=zAY (W:=wz) (b:=w.heap.size) (o:=1) (by omega) (show wz.cell? ⟨w.heap.size,1,none⟩=some (.int .i64 1)by rw[hwz,World.cell?_alloc_past _ _ _ (by simp),World.cell?_alloc_at _ _ _ _ rfl];rfl)
  have l2:=zAY (W:=wz) (b:=w.heap.size+1) (o:=0) (by omega) (show wz.cell? ⟨w.heap.size+1,0,none⟩=some (.int .i64 bn)by rw[hwz,World.cell?_alloc_at _ _ _ _ (by simp)];rfl)
  have l3:=zAY (W:=wz) (b:=w.heap.size+1) (o:=1) (by omega) (show wz.cell? ⟨w.heap.size+1,1,none⟩=some (.int .i64 bd)by rw[hwz,World.cell?_alloc_at _ _ _ _ (by simp)];rfl)
  have HWZ:=hid hwz
  have HBZ:=hid hbz
  clear hC hwz hbz hsz
  go_enter Tryz.func198,Tryz.ntmps198
  go_wp2
  rw[<- HWZ.out]
  refine zDR (by kernel_rfl) (by kernel_rfl) ?_
  repeat (go_big_quiet_step (first
   | (go_at_call 235;exact zCH (zJF _ _ _ (by omega) (by omega)))
   | (go_at_call 207;exact zCH (zEF _ _ _))))
  refine wpQuiet_nil ?_
  rintro _ ⟨X,rfl⟩
  have hfin:=zAA HBZ.out (zDI wz X)
  go_wp2
  go_ret
  exact⟨zDC (by rw[HCC.out];try simp),hfin⟩
 ·rw[if_neg c1,if_pos c2]
  obtain⟨C,hC⟩:=exq (cmpI (an*1) (bn*ad))
  rw[<- hC]
  have HCC:=hid hC
  obtain⟨wz,hwz⟩:=exq ((w.alloc (.cells #[.int .i64 an,.int .i64 ad] 29)).alloc (.cells #[.int .i64 bn,.int .i64 1] 29))
  have hbz:Below w.heap.size w wz:=by rw[hwz];exact((Below.refl _ _).alloc (yAC _) _).alloc (by simp) _
  have hsz:wz.heap.size=w.heap.size+2:=by rw[hwz];simp
  have l0:=zAY (W:=wz) (b:=w.heap.size) (o:=0) (by omega) (show wz.cell? ⟨w.heap.size,0,none⟩=some (.int .i64 an)by rw[hwz,World.cell?_alloc_past _ _ _ (by simp),World.cell?_alloc_at _ _ _ _ rfl];rfl)
  have l1:=zAY (W:=wz) (b:=w.heap.size) (o:=1) (by omega) (show wz.cell? ⟨w.heap.size,1,none⟩=some (.int .i64 ad)by rw[hwz,World.cell?_alloc_past _ _ _ (by simp),World.cell?_alloc_at _ _ _ _ rfl];rfl)
  have l2:=zAY (W:=wz) (b:=w.heap.size+1) (o:=0) (by omega) (show wz.cell? ⟨w.heap.size+1,0,none⟩=some (.int .i64 bn)by rw[hwz,World.cell?_alloc_at _ _ _ _ (by simp)];rfl)
  have l3:=zAY (W:=wz) (b:=w.heap.size+1) (o:=1) (by omega) (show wz.cell? ⟨w.heap.size+1,1,none⟩=some (.int .i64 1)by rw[hwz,World.cell?_alloc_at _ _ _ _ (by simp)];rfl)
  have HWZ:=hid hwz
  have HBZ:=hid hbz
  clear hC hwz hbz hsz
  go_enter Tryz.func198,Tryz.ntmps198
  go_wp2
  rw[<- HWZ.out]
  refine zDR (by kernel_rfl) (by kernel_rfl) ?_
  repeat (go_big_quiet_step (first
   | (go_at_call 235;exact zCH (zJF _ _ _ (by omega) (by omega)))
   | (go_at_call 207;exact zCH (zEF _ _ _))))
  refine wpQuiet_nil ?_
  rintro _ ⟨X,rfl⟩
  have hfin:=zAA HBZ.out (zDI wz X)
  go_wp2
  go_ret
  exact⟨zDC (by rw[HCC.out];try simp),hfin⟩
 ·rw[if_neg c1,if_neg c2]
  obtain⟨C,hC⟩:=exq (cmpI (an*bd) (bn*ad))
  rw[<- hC]
  have HCC:=hid hC
  obtain⟨wz,hwz⟩:=exq ((w.alloc (.cells #[.int .i64 an,.int .i64 ad] 29)).alloc (.cells #[.int .i64 bn,.int .i64 bd] 29))
  have hbz:Below w.heap.size w wz:=by rw[hwz];exact((Below.refl _ _).alloc (yAC _) _).alloc (by simp) _
  have hsz:wz.heap.size=w.heap.size+2:=by rw[hwz];simp
  have l0:=zAY (W:=wz) (b:=w.heap.size) (o:=0) (by omega) (show wz.cell? ⟨w.heap.size,0,none⟩=some (.int .i64 an)by rw[hwz,World.cell?_alloc_past _ _ _ (by simp),World.cell?_alloc_at _ _ _ _ rfl];rfl)
  have l1:=zAY (W:=wz) (b:=w.heap.size) (o:=1) (by omega) (show wz.cell? ⟨w.heap.size,1,none⟩=some (.int .i64 ad)by rw[hwz,World.cell?_alloc_past _ _ _ (by simp),World.cell?_alloc_at _ _ _ _ rfl];rfl)
  have l2:=zAY (W:=wz) (b:=w.heap.size+1) (o:=0) (by omega) (show wz.cell? ⟨w.heap.size+1,0,none⟩=some (.int .i64 bn)by rw[hwz,World.cell?_alloc_at _ _ _ _ (by simp)];rfl)
  have l3:=zAY (W:=wz) (b:=w.heap.size+1) (o:=1) (by omega) (show wz.cell? ⟨w.heap.size+1,1,none⟩=some (.int .i64 bd)by rw[hwz,World.cell?_alloc_at _ _ _ _ (by simp)];rfl)
  have HWZ:=hid hwz
  have HBZ:=hid hbz
  clear hC hwz hbz hsz
  go_enter Tryz.func198,Tryz.ntmps198
  go_wp2
  rw[<- HWZ.out]
  refine zDR (by kernel_rfl) (by kernel_rfl) ?_
  repeat (go_big_quiet_step (first
   | (go_at_call 235;exact zCH (zJF _ _ _ (by omega) (by omega)))
   | (go_at_call 207;exact zCH (zEF _ _ _))))
  refine wpQuiet_nil ?_
  rintro _ ⟨X,rfl⟩
  have hfin:=zAA HBZ.out (zDI wz X)
  go_wp2
  go_ret
  exact⟨zDC (by rw[HCC.out];try simp),hfin⟩
theorem zKS(w:World)(an ad bn bd:Int)(h1:F64 an)(h2:F64 ad)(h3:F64 bn)(h4:F64 bd):
 Calls Tryz.prog 136 #[.agg #[.int .i64 an,.int .i64 ad],.agg #[.int .i64 bn,.int .i64 bd]] w fun e w'=>e=.returned (.int .i64 (cmpR an ad bn bd))∧Below w.heap.size w w':=by
 have HC:=hid (fun X=>fcompare_c X an ad bn bd h1 h2 h3 h4)
 obtain⟨C,hC⟩:=exq (cmpR an ad bn bd)
 rw[<- hC]at HC⊢
 have HBL:=hid (show Below w.heap.size w ((w.alloc (.cells #[.int .i64 an,.int .i64 ad] 29)).alloc (.cells #[.int .i64 bn,.int .i64 bd] 29))from((Below.refl _ _).alloc (yAC _) _).alloc (by simp) _)
 clear hC
 go_enter Tryz.func136,Tryz.ntmps136
 go_wp2_with (go_at_call 198;refine(HC.out _).mono ?_;rintro e w1 ⟨rfl,hb1⟩)
 go_ret
 exact⟨rfl,zAA HBL.out hb1⟩
theorem down_facts{n d:Int}(hd:1<=d):(n.tmod d<0->n.tdiv d-1=n/d∧n.tmod d+d=n%d)∧(¬n.tmod d<0->n.tdiv d=n/d∧n.tmod d=n%d)∧ -d<n.tmod d∧n.tmod d<d:=by
 have e:=Int.mul_tdiv_add_tmod n d
 have b1:n.tmod d<d:=Int.tmod_lt_of_pos n (by omega)
 have b2: -d<n.tmod d:=by
  have:=Int.lt_tmod_of_pos n (show 0<d by omega)
  omega
 refine⟨fun h=>?_,fun h=>?_,b2,b1⟩
 ·have:=(Int.ediv_emod_unique (a:=n) (b:=d) (r:=n.tmod d+d) (q:=n.tdiv d-1) (by omega)).2 ⟨by rw[Int.mul_sub];omega,by omega,by omega⟩
  exact⟨this.1.symm,this.2.symm⟩
 ·have:=(Int.ediv_emod_unique (a:=n) (b:=d) (r:=n.tmod d) (q:=n.tdiv d) (by omega)).2 ⟨by omega,by omega,by omega⟩
  exact⟨this.1.symm,this.2.symm⟩
theorem down_c(w:World)(n d:Int)(hn:F64 n)(hd:1<=d∧d<=9223372036854775807):
 Calls Tryz.prog 92 #[.int .i64 n,.int .i64 d] w fun e w'=>e=.returned (.tuple #[.int .i64 (n/d),.int .i64 (n%d)])∧∃k,w'=w.drewN k:=by
 obtain⟨f1,f2,f3,f4⟩:=down_facts (n:=n) hd.1
 obtain⟨hna,hnb⟩:=hn
 obtain⟨hd1,hd2⟩:=hd
 have hq:(n.tdiv d).natAbs<=n.natAbs:=by rw[yGX];exact Nat.div_le_self _ _
 have hq3:n.tdiv d<=9223372036854775807:=by
  rcases yBK n 0 with h|h
  ·have e:n.tdiv d= -((-n).tdiv d):=by rw[Int.neg_tdiv];omega
   have:=Int.tdiv_nonneg (show 0<= -n by omega) (show 0<=d by omega)
   omega
  ·omega
 have hq2:n.tmod d<0-> -9223372036854775808<n.tdiv d:=fun h=>by
  have:=(f1 h)
  have e:=Int.mul_ediv_add_emod n d
  rcases yBK (-9223372036854775808) (n.tdiv d)with h5|h5
  ·exact h5
  ·exfalso
   have h6:n.tdiv d= -9223372036854775808:=by omega
   have h7:n= -9223372036854775808:=by omega
   have h8:=Int.mul_tdiv_add_tmod n d
   rw[h6]at h8
   have h9:d* -9223372036854775808<= -9223372036854775808:=by omega
   omega
 obtain⟨Q,hQ⟩:=exq (n/d)
 obtain⟨R,hR⟩:=exq (n%d)
 obtain⟨q,hq0⟩:=exq (n.tdiv d)
 obtain⟨r,hr0⟩:=exq (n.tmod d)
 rw[<- hQ,<- hR]at f1 f2
 rw[<- hq0,<- hr0]at f1 f2 hq2
 rw[<- hr0]at f3 f4
 rw[<- hq0]at hq hq3
 rw[<- hQ,<- hR]
 have w1:IntKind.i64.wrap (n.tdiv d)=q:=by rw[<- hq0];exact IntWalk.i64_in _ (by omega)
 have w2:n.tmod d=r:=hr0.symm
 have hdz:¬(d=0):=by omega
 clear hQ hR hq0 hr0
 by_cases h:r<0
 ·obtain⟨g1,g2⟩:=f1 h
  have g3:=hq2 h
  have w3:IntKind.i64.wrap (q-1)=Q:=by rw[g1];exact IntWalk.i64_in _ (by omega)
  have w4:IntKind.i64.wrap (r+d)=R:=by rw[g2];exact IntWalk.i64_in _ (by omega)
  clear f1 f2 hq2 g1 g2
  go_enter Tryz.func92,Tryz.ntmps92
  go_wp2
  go_quiet (fail)
  go_wp2
  go_ret2
  exact⟨rfl,_,rfl⟩
 ·obtain⟨g1,g2⟩:=f2 h
  subst g1
  subst g2
  clear f1 f2 hq2
  go_enter Tryz.func92,Tryz.ntmps92
  go_wp2
  go_quiet (fail)
  go_wp2
  go_ret2
  exact⟨rfl,_,rfl⟩
end
end
end Go.Proofs.YtlffndehhhpgjaaGreat
