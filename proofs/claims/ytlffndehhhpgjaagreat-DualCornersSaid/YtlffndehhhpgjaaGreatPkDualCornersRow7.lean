/- Walks and plain laws for DualCornersRow, part 7. -/
import Derived.Maps.AppendAt
import Derived.Laws.MakeOwn
import Derived.WalkSpells
import Derived.BigQuiet
import Derived.Test.YtlffndehhhpgjaaGreatPkDualCornersRow6
namespace Go.Proofs.YtlffndehhhpgjaaGreat
set_option linter.unusedVariables false
set_option linter.unusedSimpArgs false
set_option maxRecDepth 100000
set_option maxHeartbeats 4000000
section
section
section
theorem rRed_le1{n B:Nat}{L:List (List Int)}(hw:∀r∈L,r.length=n+1)(h:∀r∈(rRed L n).done++(rRed L n).left,∀x∈r,-(B:Int)<=x∧x<=(B:Int)):
 ∀r∈(rRed L (n+1)).done++(rRed L (n+1)).left,∀x∈r,-(B:Int)<=x∧x<=(B:Int):=by
 obtain⟨hi,hd⟩:=zEI L hw n
 have hwid:=hi.wid
 rw[zIL]
 obtain⟨s,hs⟩:=exq (rRed L n)
 rw[<- hs]at h hi hd hwid⊢
 unfold zMH
 cases hl:zEV (nz n) s.left with
 |none=>exact h
 |some a=>
  simp only[]
  obtain⟨ha,hnz⟩:=zGD hl
  have hnz':vec s.left[a] n≠0:=by simpa[nz]using hnz
  have hlen:=hi.len
  rw[List.length_append]at hlen
  have hrow:rowv (s.done++s.left) (s.piv.length+a)=vec s.left[a]:=by
   unfold rowv
   rw[List.getElem?_append_right (by omega),show s.piv.length+a-s.done.length=a by omega,List.getElem?_eq_getElem ha];rfl
  have hz:∀c,c<n->vec s.left[a] c=0:=fun c hc=>by rw[<- hrow];exact hi.zero _ (by omega) (by omega) c hc
  have hz2:∀c,n<c->vec s.left[a] c=0:=fun c hc=>zFK (by rw[hwid _ (List.mem_append_right _ (List.getElem_mem ha))];omega)
  have hpr:Prim (vec s.left[a]):=by
   rw[<- hrow]
   rcases hi.pr (s.piv.length+a) (by omega)with h1|h1|⟨q0,h1⟩
   ·exact h1
   ·rw[hrow]at h1;exact absurd (h1 n) hnz'
   ·rcases rowv_prim L q0 with h2|h2
    ·have:rowv (s.done++s.left) (s.piv.length+a)=rowv (L.map zDM) q0:=funext h1
     rw[this];exact h2
    ·have:=h1 n
     rw[h2 n,hrow]at this
     exact absurd this hnz'
  obtain⟨z,hzz,hpz⟩:=zIP (s.left[a]) n
  have hpp:=zIO hnz'
  rw[List.getElem?_eq_getElem ha]
  simp only[Option.getD_some]
  obtain⟨p,hp⟩:=exq (posF s.left[a] n)
  rw[<- hp]at hpz hpp⊢
  have hpl:p.length=n+1:=by rw[hp,zIQ];exact hwid _ (List.mem_append_right _ (List.getElem_mem ha))
  have hpc:∀c,c<n->vec p c=0:=fun c hc=>by rw[hpz c,hz c hc];simp
  have hone:vec p n=1:=by
   have h1:vec s.left[a] n∣1:=hpr _ (fun c=>by
    rcases Nat.lt_trichotomy c n with h1|h1|h1
    ·rw[hz c h1];exact Int.dvd_zero _
    ·rw[h1];exact Int.dvd_refl _
    ·rw[hz2 c h1];exact Int.dvd_zero _)
   have h2:(vec s.left[a] n).natAbs=1:=by
    have:=Int.natAbs_dvd_natAbs.2 h1
    exact Nat.dvd_one.1 (by simpa using this)
   have h3:=hpz n
   rcases hzz with rfl|rfl<;>omega
  have hpB:∀x∈p,-(B:Int)<=x∧x<=(B:Int):=by
   refine zKC (P:=fun x=> -(B:Int)<=x∧x<=(B:Int)) fun c=>?_
   have:=zED (P:=fun x=> -(B:Int)<=x∧x<=(B:Int)) (by omega) (h _ (List.mem_append_right _ (List.getElem_mem ha))) c
   rw[hpz c]
   rcases hzz with rfl|rfl<;>omega
  have hwo:∀r∈s.done++s.left,∀x∈zBF p n r,-(B:Int)<=x∧x<=(B:Int):=by
   intro r hr
   refine zKC (P:=fun x=> -(B:Int)<=x∧x<=(B:Int)) fun c=>?_
   unfold zBF
   refine primF_le ?_
   rw[vec_zip (by simp) (by rw[hwid r hr,hpl])]
   have:=zED (P:=fun x=> -(B:Int)<=x∧x<=(B:Int)) (by omega) (h r hr) c
   rw[hone]
   rcases Nat.lt_trichotomy c n with h1|h1|h1
   ·rw[hpc c h1];omega
   ·subst h1;rw[hone];omega
   ·rw[zFK (l:=p) (by omega),zFK (l:=r) (by rw[hwid r hr];omega)];omega
  intro r hr
  rcases List.mem_append.1 hr with hr|hr
  ·rcases List.mem_append.1 hr with hr|hr
   ·obtain⟨r',h1,rfl⟩:=List.mem_map.1 hr
    exact hwo r' (List.mem_append_left _ h1)
   ·obtain rfl:r=p:=by simpa using hr
    exact hpB
  ·obtain⟨r',h1,rfl⟩:=List.mem_map.1 hr
   exact hwo r' (List.mem_append_right _ (List.mem_of_mem_eraseIdx h1))
end
section
open Go.RowKit
def OwnR(W:World)(base:Nat)(u:Value)(l:List Int):Prop:=W.ownsRow base 3 1 u l.length (l.map (Value.int .i64))
theorem OwnR.type{W:World}{base k:Nat}{u:Value}{l:List Int}(h:OwnR W base u l)(hk:u.ownBlock=some k):base<=k∧k<W.heap.size∧∃c,W.heap[k]? =some (.cells c 3 (0,0)):=by
 rcases h.2 with⟨rfl,_⟩|⟨g,cap,cur,rfl,hbg,hgg,_⟩
 ·simp[Value.ownBlock]at hk
 ·obtain rfl:g=k:=by simpa[Value.ownBlock]using hk
  exact⟨hbg,(Array.getElem?_eq_some_iff.1 hgg).1,cur,hgg⟩
theorem OwnR.moved{W W':World}{base:Nat}{u:Value}{l:List Int}(h:OwnR W base u l)(hm:∀k,u.ownBlock=some k->W'.heap[k]? =W.heap[k]?):OwnR W' base u l:=by
 refine⟨h.1,?_⟩
 rcases h.2 with hn|⟨g,cap,cur,rfl,hbg,hgg,rest⟩
 ·exact .inl hn
 ·exact .inr ⟨g,cap,cur,rfl,hbg,(hm g rfl).trans hgg,rest⟩
theorem OwnR.low{W:World}{base b0:Nat}{u:Value}{l:List Int}(h:OwnR W base u l)(hb:b0<=base):OwnR W b0 u l:=by
 refine⟨h.1,?_⟩
 rcases h.2 with hn|⟨g,cap,cur,rfl,hbg,rest⟩
 ·exact .inl hn
 ·exact .inr ⟨g,cap,cur,rfl,by omega,rest⟩
theorem OwnR.below{W W':World}{base:Nat}{u:Value}{l:List Int}(h:OwnR W base u l)(hb:Below W.heap.size W W'):OwnR W' base u l:=h.moved fun k hk=>hb.block k (h.type hk).2.1
theorem OwnR.rowS{W:World}{base:Nat}{u:Value}{l:List Int}(h:OwnR W base u l):RowS W u l:=rowS_own h rfl
def TabD(W:World)(base:Nat)(v:Value)(L:List (List Int)):Prop:=
 ∃vs,W.ownsRow base 24 1 v L.length vs∧(∀j (hj:j<L.length),∃u,vs[j]? =some u∧OwnR W base u L[j])∧
  ∀(i j:Nat) (u u':Value) (k:Nat),vs[i]? =some u->vs[j]? =some u'->u.ownBlock=some k->u'.ownBlock=some k->i=j
theorem TabD.nil(W:World)(base:Nat):TabD W base (.slice none 0 0) []:=⟨[],World.ownsRow_nil _ _ _ _,fun j hj=>by simp at hj,fun i j u u' k h=>by simp at h⟩
theorem TabD.tab{W:World}{base:Nat}{v:Value}{L:List (List Int)}(h:TabD W base v L):TabS W base v L:=by
 obtain⟨vs,h1,h2,_⟩:=h
 exact⟨vs,h1,fun j hj=>by obtain⟨u,e,h⟩:=h2 j hj;exact⟨u,e,h.rowS⟩⟩
theorem TabD.below{W W':World}{base:Nat}{v:Value}{L:List (List Int)}(h:TabD W base v L)(hb:Below W.heap.size W W'):TabD W' base v L:=by
 obtain⟨vs,h1,h2,h3⟩:=h
 refine⟨vs,zBI h1 hb,fun j hj=>?_,h3⟩
 obtain⟨u,hu,hr⟩:=h2 j hj
 exact⟨u,hu,hr.below hb⟩
theorem own_typeL{W:World}{base k n:Nat}{v:Value}{vs:List Value}(h:W.ownsRow base 24 1 v n vs)(hk:v.ownBlock=some k):base<=k∧k<W.heap.size∧∃c,W.heap[k]? =some (.cells c 24 (0,0)):=by
 rcases h.2 with⟨rfl,_⟩|⟨g,cap,cur,rfl,hbg,hgg,_⟩
 ·simp[Value.ownBlock]at hk
 ·obtain rfl:g=k:=by simpa[Value.ownBlock]using hk
  exact⟨hbg,(Array.getElem?_eq_some_iff.1 hgg).1,cur,hgg⟩
theorem TabD.snoc{W w1 w3:World}{base:Nat}{v v' u:Value}{L:List (List Int)}{r:List Int}{vs:List Value}(h1:W.ownsRow base 24 1 v L.length vs)
 (h2:∀j (hj:j<L.length),∃u,vs[j]? =some u∧OwnR W base u L[j])(h3:∀(i j:Nat) (u u':Value) (k:Nat),vs[i]? =some u->vs[j]? =some u'->u.ownBlock=some k->u'.ownBlock=some k->i=j)
 (hb:Below W.heap.size W w1)(hbase:base<=W.heap.size)(hr:OwnR w1 W.heap.size u r)(hg:w1.grownBy w3 v.ownBlock)
 (ho':w3.ownsRow base 24 1 v' (L.length+1) (vs++[u])):TabD w3 base v' (L++[r]):=by
 have hlen:vs.length=L.length:=by have:=h1.1;omega
 have hup:∀b u l,OwnR w1 b u l->OwnR w3 b u l:=by
  intro b u l hu
  refine hu.moved fun k hk=>?_
  obtain⟨_,hlt,c,hc⟩:=hu.type hk
  refine hg.block k hlt ?_
  intro e
  obtain⟨_,h4,c2,hc2⟩:=own_typeL h1 e.symm
  have:=(hb.block k h4).trans hc2
  rw[hc]at this;cases this
 have hold:∀j q k,j<L.length->vs[j]? =some q->q.ownBlock=some k->k<W.heap.size:=by
  intro j q k hj hq hk
  obtain⟨u',hu',hr'⟩:=h2 j hj
  rw[hq]at hu';cases hu'
  exact(hr'.type hk).2.1
 refine⟨vs++[u],by simpa using ho',fun j hj=>?_,?_⟩
 ·simp only[List.length_append,List.length_cons,List.length_nil,Nat.zero_add]at hj
  by_cases hjl:j<L.length
  ·obtain⟨u',hu',hr'⟩:=h2 j hjl
   rw[List.getElem_append_left hjl]
   exact⟨u',by rw[List.getElem?_append_left (by omega)];exact hu',hup _ _ _ (hr'.below hb)⟩
  ·obtain rfl:j=L.length:=by omega
   rw[List.getElem_append_right (Nat.le_refl _)]
   simp only[Nat.sub_self,List.getElem_cons_zero]
   exact⟨u,by rw[List.getElem?_append_right (by omega),hlen];simp,hup _ _ _ (hr.low hbase)⟩
 ·intro i j q q' k hi hj hk hk'
  have hin:∀{i:Nat} {q:Value},(vs++[u])[i]? =some q->(i<L.length∧vs[i]? =some q)∨(i=L.length∧q=u):=by
   intro i q h
   rcases Nat.lt_or_ge i L.length with h4|h4
   ·rw[List.getElem?_append_left (by omega)]at h;exact .inl ⟨h4,h⟩
   ·rw[List.getElem?_append_right (by omega),hlen]at h
    rcases Nat.eq_or_lt_of_le h4 with h5|h5
    ·rw[<- h5,Nat.sub_self]at h;exact .inr ⟨h5.symm,by simpa using h.symm⟩
    ·rw[List.getElem?_eq_none (by simp;omega)]at h;cases h
  rcases hin hi with⟨h4,h5⟩|⟨h4,rfl⟩<;>rcases hin hj with⟨h6,h7⟩|⟨h6,h8⟩
  ·exact h3 i j q q' k h5 h7 hk hk'
  ·subst h8
   have:=hold i q k h4 h5 hk
   have:=(hr.type hk').1
   omega
  ·have:=hold j q' k h6 h7 hk'
   have:=(hr.type hk).1
   omega
  ·omega
theorem TabD.at{W:World}{base n:Nat}{v:Value}{L:List (List Int)}(h:TabD W base v L)(hl:L.length=n){i:Nat}(hi:i<n):
 ∃g0 cap u,v=.slice (some ⟨g0,0,none⟩) n cap∧base<=g0∧g0<W.heap.size∧W.cell? ⟨g0,i,none⟩=some u∧OwnR W base u (L[i]?.getD [])∧W.frozen? ⟨g0,i,none⟩=false∧(∀k,u.ownBlock=some k->k≠g0)∧
  ∀w1 w3 u' r,Below W.heap.size W w1->w1.grownBy w3 u.ownBlock->OwnR w3 base u' r->(u'.ownBlock=u.ownBlock∨u'.ownBlock=some w1.heap.size)->TabD (w3.setCell ⟨g0,i,none⟩ u') base v (L.set i r):=by
 subst hl
 obtain⟨vs,h1,h2,h3⟩:=h
 obtain⟨u,hu,hr⟩:=h2 i hi
 rcases h1.2 with⟨rfl,h0⟩|⟨g0,cap,cur,rfl,hbg,hgg,hnc,hcm,hsz,htk⟩
 ·omega
 have hcell:=World.ownsRow.cellAt (w:=W) (base:=base) (e:=24) (size:=1) (g:=g0) (n:=L.length) (cap:=cap) (xs:=vs) h1 i (by omega)
 have hvl:vs.length=L.length:=by have:=h1.1;omega
 have hg0:g0<W.heap.size:=(Array.getElem?_eq_some_iff.1 hgg).1
 have hne:∀(j:Nat) (q:Value) (k:Nat),j<L.length->vs[j]? =some q->q.ownBlock=some k->k<W.heap.size∧k≠g0:=by
  intro j q k hj hq hk
  obtain⟨u',hu',hr'⟩:=h2 j hj
  rw[hq]at hu';cases hu'
  obtain⟨_,h4,c,hc⟩:=hr'.type hk
  refine⟨h4,?_⟩
  rintro rfl
  rw[hgg]at hc;cases hc
 refine⟨g0,cap,u,rfl,hbg,hg0,by rw[hcell];exact hu,by rw[List.getElem?_eq_getElem hi];exact hr,by simp[World.frozen?,hgg],fun k hk=>(hne i u k hi hu hk).2,?_⟩
 intro w1 w3 u' r hb hg hr' hat
 have hkeep:∀k,k≠g0->(w3.setCell ⟨g0,i,none⟩ u').heap[k]? =w3.heap[k]? :=fun k hk=>Below.heap_setCell _ _ _ _ hk
 have hold:∀k,k<W.heap.size->u.ownBlock≠some k->w3.heap[k]? =W.heap[k]? :=fun k hk hn=>(hg.block k (Nat.lt_of_lt_of_le hk hb.size) (fun e=>hn e.symm)).trans (hb.block k hk)
 have hg3:w3.heap[g0]? =some (.cells cur 24 (0,0)):=(hold g0 hg0 (fun e=>(hne i u g0 hi hu e).2 rfl)).trans hgg
 have hb2:(w3.setCell ⟨g0,i,none⟩ u').heap[g0]? =some (.cells (cur.setIfInBounds i u') 24 (0,0)):=zAP hg3 i u'
 have hnew:∀k,u'.ownBlock=some k->k≠g0:=by
  intro k hk
  obtain⟨_,_,c,hc⟩:=hr'.type hk
  rintro rfl
  rw[hg3]at hc;cases hc
 refine⟨vs.set i u',⟨by simpa using h1.1,.inr ⟨g0,cap,cur.setIfInBounds i u',by simp,hbg,hb2,by simpa using hnc,hcm,by simpa using hsz,?_⟩⟩,fun j hj=>?_,?_⟩
 ·rw[<- htk]
  simp only[Array.toList_setIfInBounds,List.length_set,Nat.mul_one]
  rw[List.take_set]
 ·have hj':j<L.length:=by simpa using hj
  by_cases e:i=j
  ·subst e
   exact⟨u',by simp[hvl,hj'],by simpa using hr'.moved fun k hk=>hkeep k (hnew k hk)⟩
  ·obtain⟨u2,hu2,hr2⟩:=h2 j hj'
   refine⟨u2,by rw[List.getElem?_set_ne e];exact hu2,?_⟩
   rw[List.getElem_set_ne e]
   refine hr2.moved fun k hk=>(hkeep k (hne j u2 k hj' hu2 hk).2).trans (hold k (hne j u2 k hj' hu2 hk).1 fun e2=>e (h3 i j u u2 k hu hu2 e2 hk))
 ·intro p q x y k hp hq hx hy
  have hin:∀{p:Nat} {x:Value},(vs.set i u')[p]? =some x->(p=i∧x=u')∨(p≠i∧p<L.length∧vs[p]? =some x):=by
   intro p x h
   by_cases e:i=p
   ·subst e
    rw[List.getElem?_set_self (by omega)]at h
    exact .inl ⟨rfl,(Option.some.inj h).symm⟩
   ·rw[List.getElem?_set_ne e]at h
    exact .inr ⟨fun h=>e h.symm,by have:=(List.getElem?_eq_some_iff.1 h).1;omega,h⟩
  have hdif:∀{p:Nat} {x:Value},p≠i->p<L.length->vs[p]? =some x->x.ownBlock=some k->u'.ownBlock=some k->False:=by
   intro p x h4 h5 h6 h7 h8
   rcases hat with h9|h9
   ·rw[h9]at h8
    exact h4 (h3 p i x u k h6 hu h7 h8)
   ·rw[h9]at h8
    have:=(hne p x k h5 h6 h7).1
    have:=hb.size
    cases h8;omega
  rcases hin hp with⟨h4,h5⟩|⟨h4,h5,h6⟩<;>rcases hin hq with⟨h7,h8⟩|⟨h7,h8,h9⟩
  ·omega
  ·subst h5;exact(hdif h7 h8 h9 hy hx).elim
  ·subst h8;exact(hdif h4 h5 h6 hx hy).elim
  ·exact h3 p q x y k h6 h9 hx hy
theorem r3columnsD_c(w:World)(a:Option Addr)(n cap:Nat)(M:List (List Int))(hn:M.length=n)(hn6:n<=1000)(H:zAN w a M)(a2:Option Addr)(k2 cap2:Nat)(S:List Int)(hk2:S.length=k2)(hk21:k2<=1000)(H2:zAI w a2 S)
 (hS:∀r∈M,∀j∈S,0<=j∧j<r.length):
 Calls Tryz.prog 184 #[.slice a n cap,.slice a2 k2 cap2] w fun e w'=>∃v,e=.returned v∧TabD w' w.heap.size v (zAS M S)∧Below w.heap.size w w':=by
 have HN:=hid hn
 have HH:=hid H
 have HK2:=hid hk2
 have HH2:=hid H2
 have HS:=hid hS
 have HCT:=hid (fun(k:Nat) (hk:k<M.length)=>colsF_take (M:=M) (S:=S) hk)
 have HCL:=hid (zBK M S)
 obtain⟨C,hC⟩:=exq (zAS M S)
 rw[<- hC]at HCT HCL⊢
 clear hn H hk2 H2 hS hC
 go_enter Tryz.func184,Tryz.ntmps184
 go_wp2
 go_loopw [5,13] (fun v i wr=>∃k:Nat,k<=n∧i=.int .i64 k∧TabD wr w.heap.size v (C.take k)∧Below w.heap.size w wr) (fun _ i _=>n-(intOf i).toNat)
 case atStart=>exact⟨0,Nat.zero_le _,rfl,TabD.nil _ _,Below.refl _ _⟩
 case round=>
  obtain⟨k,hk,rfl,ho,hbk⟩:=hrel
  obtain⟨wo,hwo⟩:=exq (wr)
  subst hwo
  by_cases hlt:k<n
  ·have hkM:k<M.length:=by rw[HN.out];exact hlt
   obtain⟨b,off,ra,rn,rc,rfl,hbs,hq0,hrn,hrm,hri⟩:=(HH.out.below hbk) k hkM
   have htk:=HCT.out k hkM
   have hsr:=HS.out M[k] (List.getElem_mem hkM)
   obtain⟨r,hr⟩:=exq (M[k])
   rw[<- hr]at htk hsr hrn hri
   have hlen:(C.take k).length=k:=by rw[List.length_take,HCL.out];omega
   have HL:=hid hlen
   have HTK:=hid htk
   have HSR:=hid hsr
   have HRN:=hid hrn
   have HRI:=hid hri
   have HO:=hid ho
   have HBK:=hid hbk
   obtain⟨va,vc,hv⟩:∃va vc,u5=.slice va k vc:=by
    obtain⟨_,ho1,_⟩:=ho
    obtain⟨a',c',e⟩:=zAD ho1
    exact⟨a',c',by rw[e,hlen]⟩
   subst hv
   have M0:=World.ownsRow_made (base:=wo.heap.size) (e:=3) (size:=1) wo #[] 0 (Nat.le_refl _) (Nat.zero_le _) rfl
   have HM0:=hid M0
   clear hr htk hsr hrn hri hkM ho hlen M0
   go_wp2
   go_loopw [8,20] (fun v i wr=>∃t:Nat,t<=k2∧i=.int .i64 t∧wr.ownsRow wo.heap.size 3 1 v t (((S.take t).map (fun j=>vec r j.toNat)).map (Value.int .i64))∧Below wo.heap.size wo wr) (fun _ i _=>k2-(intOf i).toNat)
   case atStart=>exact⟨0,Nat.zero_le _,rfl,HM0.out,(Below.refl _ _).alloc (Nat.le_refl _) _⟩
   case round=>
    obtain⟨t,ht,rfl,hown,hbt⟩:=hrel
    by_cases hlt2:t<k2
    ·have htS:t<S.length:=by rw[HK2.out];exact hlt2
     obtain⟨b2,off2,rfl,hbs2,hc2⟩:=(HH2.out.below (zAA HBK.out hbt)) t htS
     have hpp:=HSR.out S[t] (List.getElem_mem htS)
     have hg2:S[t]?.getD 0=S[t]:=by rw[List.getElem?_eq_getElem htS];rfl
     rw[hg2]at hc2
     have htk2:(S.take (t+1)).map (fun j=>vec r j.toNat)=(S.take t).map (fun j=>vec r j.toNat)++[vec r (S[t]).toNat]:=by
      rw[List.take_succ_eq_append_getElem htS,List.map_append];rfl
     obtain⟨q,hq⟩:∃q:Nat,S[t]=q:=⟨(S[t]).toNat,by omega⟩
     rw[hq]at hc2 hpp htk2
     rw[show((q:Int)).toNat=q by omega]at htk2
     have hqr:q<r.length:=by omega
     obtain⟨b3,off3,rfl,hbs3,hc3⟩:=(HRI.out.below hbt) q hqr
     have hqn:(q:Int)<(rn:Int):=by have:=HRN.out;omega
     have hq0':(0:Int)<=(q:Int):=by omega
     obtain⟨x,hx⟩:=exq (r[q]?.getD 0)
     have hxv:vec r q=x:=hx.symm
     rw[<- hx]at hc3
     rw[hxv]at htk2
     obtain⟨la,lc,rfl⟩:=zAD hown
     have HTK2:=hid htk2
     have HOW:=hid hown
     have M1:=hid (show t+1<=maxLen by unfold maxLen;omega)
     have M2:=hid (show(t+1)*8<=140737488355328 by omega)
     have M3:=hid (Nat.le_trans hbt.size (zCH wr (.cells #[.int .i64 x] 3)))
     clear hpp hg2 htk2 hq hx hxv hown htS hqr
     go_wp2_with (at_builtin;refine zAQ _ rfl (.tmp 24) (.tmp 29) 24 rfl wo.heap.size 3 (.int .i64 0) 1 8 Tryz.underlying24 zEF rfl Nat.one_pos (.slice la t lc) t _ rfl (HOW.out.alloc _) (some ⟨wr.heap.size,0,none⟩) 1 1 [.int .i64 x] rfl rfl zCD (zBT wr _ _) (zEE _) M1.out M2.out M3.out ?_;refine Stop.of ?_)
     refine Stop.go ?_
     intro a3 c3 w3 own3 g3
     have hB3:Below wo.heap.size wo w3:=(hbt.alloc hbt.size _).grown g3 M3.out (fun k hk=>(HOW.out.lt k hk).1)
     go_wp2
     refine⟨⟨t+1,by omega,by go_num,?_,hB3⟩,by simp[intOf];omega⟩
     rw[HTK2.out]
     simpa using own3
    ·obtain rfl:t=k2:=by omega
     rw[List.take_of_length_le (by rw[HK2.out];exact Nat.le_refl _)]at hown
     obtain⟨X,hX⟩:=exq (S.map (fun j=>vec r j.toNat))
     rw[<- hX]at hown HTK
     have hXl:X.length=t:=by rw[hX,List.length_map,HK2.out]
     obtain⟨la,lc,rfl⟩:=zAD hown
     have hrs:OwnR wr wo.heap.size (.slice la t lc) X:=by unfold OwnR;rw[hXl];exact hown
     obtain⟨vs,ho1,ho2,ho3⟩:=HO.out
     have ho1':=ho1
     rw[HL.out]at ho1'
     have hb2a:Below wo.heap.size wo (wr.alloc (.cells #[.slice la t lc] 24)):=hbt.alloc hbt.size _
     have M1:=hid (show k+1<=maxLen by unfold maxLen;omega)
     have M2:=hid (show(k+1)*24<=140737488355328 by omega)
     have M3:=hid (Nat.le_trans HBK.out.size hb2a.size)
     have HO2':=hid (zBI ho1' hb2a)
     have HO1:=hid ho1
     have HO2:=hid ho2
     have HO3:=hid ho3
     have HRS:=hid (hrs.below ((Below.refl _ wr).alloc (Nat.le_refl _) (.cells #[.slice la t lc] 24)))
     have HB2':=hid hb2a
     clear hX hXl hown hrs ho1 ho1' ho2 ho3 hb2a hbt
     go_wp2_with (at_builtin;refine zAQ _ rfl (.tmp 32) (.tmp 34) 22 rfl w.heap.size 24 (.slice none 0 0) 1 24 Tryz.underlying22 zKD rfl Nat.one_pos (.slice va k vc) k vs rfl HO2'.out (some ⟨wr.heap.size,0,none⟩) 1 1 [.slice la t lc] rfl rfl zCD (zBT wr _ _) (zCT _ _ _) M1.out M2.out M3.out ?_;refine Stop.of ?_)
     refine Stop.go ?_
     intro a5 c5 w5 own5 g5
     have hsn:TabD w5 w.heap.size (.slice a5 (k+1) c5) (C.take k++[X]):=TabD.snoc HO1.out HO2.out HO3.out HB2'.out HBK.out.size HRS.out g5 (by rw[HL.out];exact own5)
     have hB5:Below w.heap.size w w5:=(HBK.out.trans (HB2'.out.mono HBK.out.size)).grown g5 M3.out (fun q hq=>(HO2'.out.lt q hq).1)
     rw[<- HTK.out]at hsn
     go_wp2
     exact⟨⟨k+1,by omega,by go_num,hsn,hB5⟩,by simp[intOf];omega⟩
  ·obtain rfl:k=n:=by omega
   rw[List.take_of_length_le (by rw[HCL.out,HN.out];exact Nat.le_refl _)]at ho
   go_wp2
   go_ret
   exact⟨_,rfl,ho,hbk⟩
end
section
open Go.RowKit
def zCG(w:World)(g:Nat)(l:List Rt):Prop:=w.heap[g]? =some (.cells (zAM l).toArray 29 (0,0))
theorem zCG.lt{w:World}{g:Nat}{l:List Rt}(h:zCG w g l):g<w.heap.size:=(Array.getElem?_eq_some_iff.1 h).1
theorem zCG.keep{w w':World}{g:Nat}{l:List Rt}(h:zCG w g l)(hk:w'.heap[g]? =w.heap[g]?):zCG w' g l:=hk.trans h
theorem zCG.cells{w:World}{g:Nat}{l:List Rt}(h:zCG w g l){k:Nat}(hk:k<l.length):w.cell? ⟨g,k*2,none⟩=some (.int .i64 l[k].1)∧w.cell? ⟨g,k*2+1,none⟩=some (.int .i64 l[k].2)∧∀o,w.frozen? ⟨g,o,none⟩=false:=by
 unfold zCG at h
 refine⟨?_,?_,fun o=>by simp[World.frozen?,h]⟩
 ·have:=zEQ l k 0 hk (by omega)
  simp[World.cell?,h];rw[Nat.add_zero]at this;rw[this];rfl
 ·have:=zEQ l k 1 hk (by omega)
  simp[World.cell?,h];rw[this];rfl
theorem zMG:∀(l:List Rt) (k:Nat) (p q:Int),k<l.length->((zAM l).set (k*2) (.int .i64 p)).set (k*2+1) (.int .i64 q)=zAM (l.set k (p,q))
 |x::l,0,p,q,_=>by simp[zAM,zBC]
 |x::l,k+1,p,q,h=>by
  have ih:=zMG l k p q (by simpa using h)
  have e:zAM (x::l)=.int .i64 x.1:: .int .i64 x.2::zAM l:=rfl
  rw[e,show(k+1)*2=(k*2+1)+1 by omega]
  simp only[List.set_cons_succ]
  rw[ih];rfl
theorem zCG.set{w:World}{g:Nat}{l:List Rt}(h:zCG w g l){k:Nat}(hk:k<l.length)(p q:Int):zCG ((w.setCell ⟨g,k*2,none⟩ (.int .i64 p)).setCell ⟨g,k*2+1,none⟩ (.int .i64 q)) g (l.set k (p,q)):=by
 unfold zCG
 rw[zAP (zAP h (k*2) (.int .i64 p)) (k*2+1) (.int .i64 q),<- zMG l k p q hk]
 congr 2
 apply Array.toList_inj.1
 simp
theorem zCG.own{w:World}{base g n:Nat}{l:List Rt}(h:zCG w g l)(hl:l.length=n)(hn:n<=maxLen)(hb:base<=g):zCR w base (.slice (some ⟨g,0,none⟩) n n) l:=by
 subst hl
 refine⟨zBR l,.inr ⟨g,_,_,rfl,hb,h,Nat.le_refl _,hn,by simp[zBR],?_⟩⟩
 rw[<- zBR l];simp
theorem ratVals_rep(n:Nat):zAM (List.replicate n (0,0))=List.replicate (n*2) (.int .i64 0):=by
 induction n with
 |zero=>rfl
 |succ n ih=>
  rw[List.replicate_succ,show(n+1)*2=n*2+1+1 by omega,List.replicate_succ,List.replicate_succ,<- ih];rfl
theorem made_rat(w:World)(n:Nat):zCG (w.alloc (.cells (madeCells #[.int .i64 0,.int .i64 0] (n*2)) 29)) w.heap.size (List.replicate n (0,0)):=by
 have e:madeCells #[Value.int .i64 0,.int .i64 0] (n*2)=(zAM (List.replicate n (0,0))).toArray:=by
  rw[ratVals_rep]
  apply Array.ext
  ·simp[size_madeCells]
  ·intro i h1 h2
   have:i%2=0∨i%2=1:=by omega
   rcases this with h|h<;>simp[madeCells,h]
 unfold zCG
 rw[World.alloc_heap_new,e]
theorem zKY(n:Nat)(hn:n<=1000)(w:World):(Instr.makeSlice 42 (.int .i64 (n:Int)) (.int .i64 (n:Int))).run Tryz.prog w=.ok (.slice (some ⟨w.heap.size,0,none⟩) n n) (w.alloc (.cells (madeCells #[.int .i64 0,.int .i64 0] (n*2)) 29)):=by
 obtain⟨i,hi,hz0,hz1,hz2⟩:=info_parts zHH
 have:=run_makeSlice w 42 29 i _ Tryz.underlying42 hi hz0 .i64 .i64 (n:Int) (n:Int) (by omega) (by omega) (by rw[hz1];omega) (by rw[hz2];omega) (by omega)
 rw[this,hz1];rfl
def addY(L:List (List Int))(y:List Int)(k:Nat):List (List Int):=zAK (L.take k) (y.take k)++L.drop k
theorem addY_zero(L:List (List Int))(y:List Int):addY L y 0=L:=by simp[addY,zAK]
theorem addY_all{L:List (List Int)}{y:List Int}{n:Nat}(h1:L.length=n)(h2:y.length=n):addY L y n=zAK L y:=by
 unfold addY;rw[List.take_of_length_le (by omega),List.take_of_length_le (by omega),List.drop_of_length_le (by omega),List.append_nil]
theorem addY_len{L:List (List Int)}{y:List Int}{n k:Nat}(h1:L.length=n)(h2:y.length=n)(hk:k<=n):(addY L y k).length=n:=by
 unfold addY zAK;simp;omega
theorem addY_get{L:List (List Int)}{y:List Int}{n k:Nat}(h1:L.length=n)(h2:y.length=n)(hk:k<n):(addY L y k)[k]?.getD []=L[k]?.getD []:=by
 unfold addY zAK
 rw[List.getElem?_append_right (by simp;omega)]
 simp
 rw[show k-min k (min L.length (min k y.length))=0 by omega,Nat.add_zero]
theorem addY_succ{L:List (List Int)}{y:List Int}{n k:Nat}(h1:L.length=n)(h2:y.length=n)(hk:k<n):addY L y (k+1)=(addY L y k).set k (L[k]?.getD []++[y[k]?.getD 0]):=by
 have hkL:k<L.length:=by omega
 have hky:k<y.length:=by omega
 unfold addY zAK
 rw[List.take_succ_eq_append_getElem hkL,List.take_succ_eq_append_getElem hky,List.zipWith_append (by simp;omega)]
 rw[List.set_append_right _ _ (by simp;omega),List.drop_eq_getElem_cons hkL]
 simp[hkL,hky]
 rw[show k-min k (min L.length (min k y.length))=0 by omega,List.drop_eq_getElem_cons hkL]
 rfl
end
end
section
section
open Go.RowKit
theorem r3solved_c(w:World)(a a2 a3:Option Addr)(n cap n2 cap2 cap3:Nat)(M:Mask)(l y:List Int)(hn:M.length=n)(hn2:l.length=n2)(hn3:y.length=n)(H:zAN w a M)(H2:zAI w a2 l)(H3:zAI w a3 y)
 (hok:okM M=true)(hmil:milB y=true)(hso:zCL (zAC M) l):
 Calls Tryz.prog 219 #[.slice a n cap,.slice a2 n2 cap2,.slice a3 n cap3] w fun e w'=>∃v base,e=.returned (.tuple #[v,.int .i64 (zBP (zAK (zAS M l) y) n2).2.1,.bool (zBP (zAK (zAS M l) y) n2).2.2])∧w.heap.size<=base∧zCR w' base v (zBP (zAK (zAS M l) y) n2).1∧Below w.heap.size w w':=by
 obtain⟨hM,h1,h6,hc1,hc10⟩:=zDJ hok
 have hl10:=set_le hso
 have hn6:n<=6:=by omega
 have hn1:1<=n:=by omega
 have hn210:n2<=10:=by omega
 have hS:∀r∈M,∀j∈l,0<=j∧j<r.length:=fun r hr j hj=>by rw[hM.wid r hr];exact hso.2 j hj
 have HCl:=hid (r3columnsD_c w a n cap M hn (by omega) H a2 n2 cap2 l hn2 (by omega) H2 hS)
 have hMC:MaskOk (zAS M l) n2:=by rw[<- hn2];exact hM.cols l
 have hB6:=zHG hmil
 have hY:=hMC.addY (y:=y) (by rw[zBK];omega) (Y:=1000000) (by omega) hB6
 have hCl:(zAS M l).length=n:=by rw[zBK,hn]
 have hClw:=hMC.wid
 obtain⟨L0,hL0⟩:=exq (zAS M l)
 rw[<- hL0]at HCl hY hCl hClw⊢
 have hAll:=addY_all hCl hn3
 have hCn:(zAK L0 y).length=n:=by rw[zDV (by omega),hCl]
 have HAG:=hid (fun k (hk:k<n)=>addY_get (k:=k) hCl hn3 hk)
 have HAS:=hid (fun k (hk:k<n)=>addY_succ (k:=k) hCl hn3 hk)
 have HAL:=hid (fun k (hk:k<=n)=>addY_len (k:=k) hCl hn3 hk)
 have HA0:=hid (addY_zero L0 y)
 obtain⟨C,hC⟩:=exq (zAK L0 y)
 rw[<- hC]at hY hAll hCn⊢
 have hle:∀t,t<=n2+1->∀r∈(rRed C t).done++(rRed C t).left,r.length=n2+1∧BndL 1073741824 r:=fun t ht r hr=>by
  have h0:∀t,t<=n2->∀r∈(rRed C t).done++(rRed C t).left,∀x∈r,-((720*1000000:Nat):Int)<=x∧x<=((720*1000000:Nat):Int):=fun t ht r hr=>(rRed_le hY.wid hY.le6 hY.one hY.all ht r hr).2
  refine⟨(zEI C hY.wid t).1.wid r hr,?_⟩
  rcases Nat.lt_or_ge n2 t with h|h
  ·obtain rfl:t=n2+1:=by omega
   intro x hx
   have:=rRed_le1 hY.wid (h0 n2 (Nat.le_refl _)) r hr x hx
   omega
  ·intro x hx
   have:=h0 t h r hr x hx
   omega
 have HRd:=hid (fun(X:World) (a5:Option Addr) (c5:Nat) (hR:zAN X a5 C)=>r3reduced_c X a5 n c5 C (n2+1) hCn (by omega) hR hY.wid (by omega) (fun r hr x hx=>by have:=hY.all r hr x hx;omega)
  hle (fun t=>by rw[(zLK hY.wid t).1,hCn]) (fun t=>(zLK hY.wid t).2))
 have hinv:=(zEI C hY.wid (n2+1)).1
 have hdp:(rRed C (n2+1)).piv.length=(rRed C (n2+1)).done.length:=(zLK hY.wid (n2+1)).2
 have hDw:∀r∈(rRed C (n2+1)).done,r.length=n2+1:=fun r hr=>(hle _ (Nat.le_refl _) r (List.mem_append_left _ hr)).1
 have hDb:∀r∈(rRed C (n2+1)).done,BndL 1073741824 r:=fun r hr=>(hle _ (Nat.le_refl _) r (List.mem_append_left _ hr)).2
 have hKn:(rRed C (n2+1)).piv.length<=n:=by have:=(zLK hY.wid (n2+1)).1;omega
 have hJlt:∀k,k<(rRed C (n2+1)).piv.length->jf (rRed C (n2+1)).piv k<n2+1:=fun k hk=>by
  unfold jf;rw[List.getElem?_eq_getElem hk];exact hinv.lt _ (List.getElem_mem hk)
 have hJpos:∀k,k<(rRed C (n2+1)).piv.length->0<vec ((rRed C (n2+1)).done[k]?.getD []) (jf (rRed C (n2+1)).piv k):=fun k hk=>by
  have:=(hinv.pp k hk).2
  unfold rowv at this
  rw[List.getElem?_append_left (by omega)]at this
  exact this
 have HSV:=hid (show zBP C n2=if n2∈(rRed C (n2+1)).piv then([],0,false)else((List.range (rRed C (n2+1)).piv.length).foldl (fun out i=>out.set (jf (rRed C (n2+1)).piv i) (zAR (vec ((rRed C (n2+1)).done[i]?.getD []) n2) (vec ((rRed C (n2+1)).done[i]?.getD []) (jf (rRed C (n2+1)).piv i)))) (List.replicate n2 (0,1)),(n2:Int)-(rRed C (n2+1)).piv.length,true)from rfl)
 obtain⟨SV,hSV⟩:=exq (zBP C n2)
 rw[<- hSV]at HSV⊢
 obtain⟨D,hD⟩:=exq ((rRed C (n2+1)).done)
 obtain⟨J,hJ⟩:=exq ((rRed C (n2+1)).piv)
 rw[<- hD]at HRd hdp hDw hDb hJpos HSV
 rw[<- hJ]at HRd hdp hJpos HSV hKn hJlt
 obtain⟨K,hK⟩:=exq (J.length)
 rw[<- hK]at HRd hdp hJpos HSV hKn hJlt
 have HKJ:=hid hK
 have HDL:=hid (show D.length=K from hdp.symm)
 have HDW:=hid hDw
 have HDB:=hid hDb
 have HJLT:=hid hJlt
 have HJPOS:=hid hJpos
 have HALL:=hid hAll
 have HN3:=hid hn3
 have HH3:=hid H3
 have HCW:=hid hClw
 have HCL:=hid hCl
 have HYW:=hid hY.wid
 clear hSV hD hJ hK hdp hDw hDb hJlt hJpos hAll hn3 H3 hClw hle hinv hC hL0 hY hMC hB6 hS hCn hCl H H2 hn hn2 hso hmil hok hM h1 h6 hc1 hc10 hl10
 go_enter Tryz.func219,Tryz.ntmps219
 go_wp2_with (go_at_call 184;refine HCl.out.mono ?_;rintro e w1 ⟨v1,rfl,hT1,hb1⟩;refine Stop.of ?_)
 refine Stop.go ?_
 have hv1:∃g1 c1,v1=.slice (some ⟨g1,0,none⟩) n c1:=by
  obtain⟨g1,c1,_,e,_⟩:=hT1.at HCL.out (i:=0) (by omega)
  exact⟨g1,c1,e⟩
 obtain⟨g1,c1,rfl⟩:=hv1
 have HT1:=hid hT1
 have HB1:=hid hb1
 clear hT1 hb1 HCl
 go_wp2
 go_loopw [22] (fun i wr=>∃k:Nat,k<=n∧i=.int .i64 k∧TabD wr w.heap.size (.slice (some ⟨g1,0,none⟩) n c1) (addY L0 y k)∧Below w.heap.size w wr) (fun i _=>n-(intOf i).toNat)
 case atStart=>exact⟨0,Nat.zero_le _,rfl,by rw[HA0.out];exact HT1.out,HB1.out⟩
 case round=>
  obtain⟨k,hk,rfl,hT,hbk⟩:=hrel
  by_cases hlt:k<n
  ·obtain⟨g0,cap0,u,e,hbg,hg0,hcu,hou,hfu,hune,hset⟩:=hT.at (HAL.out k hk) hlt
   cases e
   rw[HAG.out k hlt]at hou
   obtain⟨yb,yo,rfl,hys,hyc⟩:=HH3.out k (by rw[HN3.out];exact hlt)
   have hasu:=HAS.out k hlt
   obtain⟨x,hx⟩:=exq (y[k]?.getD 0)
   rw[<- hx]at hyc hasu
   have hrl:(L0[k]?.getD []).length=n2:=by
    rw[List.getElem?_eq_getElem (by rw[HCL.out];exact hlt)];exact HCW.out _ (List.getElem_mem _)
   obtain⟨r,hr⟩:=exq (L0[k]?.getD [])
   rw[<- hr]at hou hasu hrl
   unfold OwnR at hou
   rw[hrl]at hou
   obtain⟨ua,uc,rfl⟩:=zAD hou
   have HOU:=hid hou
   have HUN:=hid hune
   have HSET:=hid hset
   have HAU:=hid hasu
   have HBK:=hid hbk
   have HRL:=hid hrl
   have hg0:=hg0
   have HSU:=hid (hou.lt)
   have HS:=hid (fun(X:World) (hX:Below wr.heap.size wr X)=>show X.cell? ⟨g1,k,none⟩=some (.slice ua n2 uc)∧X.cell? ⟨yb,yo+k,none⟩=some (.int .i64 x)from
    ⟨(hX.cell (p:=⟨g1,k,none⟩) hg0).trans hcu,(hX.cell (p:=⟨yb,yo+k,none⟩) (Nat.lt_of_lt_of_le hys hbk.size)).trans ((hbk.cell (p:=⟨yb,yo+k,none⟩) hys).trans hyc)⟩)
   have i1:(k:Int)<(n:Int):=by omega
   have M1:=hid (show n2+1<=maxLen by unfold maxLen;omega)
   have M2:=hid (show(n2+1)*8<=140737488355328 by omega)
   clear hou hune hset hasu hbk hrl hx hr hyc hcu hT
   go_wp2
   refine zAF (fun j' X=>decide (j'<=11)=true->X.cell? ⟨g1,k,none⟩=some (.slice ua n2 uc)∧X.cell? ⟨yb,yo+k,none⟩=some (.int .i64 x)) (by kernel_rfl) ?_
   have hbd:Below wr.heap.size wr wr.drew:=(Below.refl _ _).drew
   have HO2:=hid (zBI HOU.out ((Below.refl _ wr).drew))
   have HB3:=hid hbd
   generalize wr.drew=wd at hbd HO2 HB3⊢
   refine AnyT.tD (i:=0) (v:=.slice (some ⟨g1,0,none⟩) n c1) rfl rfl (by rintro w' ⟨y1,y2⟩;go_simp) (HS.out _ hbd) ?_;go_frame
   refine AnyT.tD (i:=1) (v:=.int .i64 k) rfl rfl (by rintro w' ⟨y1,y2⟩;go_simp) (HS.out _ hbd) ?_;go_frame
   refine AnyT.tD (i:=2) (v:=.slice (some ⟨g1,0,none⟩) n c1) rfl rfl (by rintro w' ⟨y1,y2⟩;go_simp) (HS.out _ hbd) ?_;go_frame
   refine AnyT.tD (i:=3) (v:=.int .i64 k) rfl rfl (by rintro w' ⟨y1,y2⟩;go_simp) (HS.out _ hbd) ?_;go_frame
   refine AnyT.tD (i:=4) (v:=.pointer (some ⟨g1,k,none⟩)) rfl rfl (by rintro w' ⟨y1,y2⟩;go_simp) (HS.out _ hbd) ?_;go_frame
   refine AnyT.tD (i:=5) (v:=.slice ua n2 uc) rfl rfl (by rintro w' ⟨y1,y2⟩;go_simp) (HS.out _ hbd) ?_;go_frame
   refine AnyT.tD (i:=6) (v:=.slice (some ⟨yb,yo,none⟩) n cap3) rfl rfl (by rintro w' ⟨y1,y2⟩;go_simp) (HS.out _ hbd) ?_;go_frame
   refine AnyT.tD (i:=7) (v:=.int .i64 k) rfl rfl (by rintro w' ⟨y1,y2⟩;go_simp) (HS.out _ hbd) ?_;go_frame
   refine AnyT.tD (i:=8) (v:=.pointer (some ⟨yb,yo+k,none⟩)) rfl rfl (by rintro w' ⟨y1,y2⟩;go_simp) (HS.out _ hbd) ?_;go_frame
   refine AnyT.tD (i:=9) (v:=.int .i64 x) rfl rfl (by rintro w' ⟨y1,y2⟩;go_simp) (HS.out _ hbd) ?_;go_frame
   have hbA:Below wr.heap.size wr (wd.alloc (.cells #[.int .i64 x] 3)):=HB3.out.alloc HB3.out.size _
   have M3:=hid (Nat.le_trans HBK.out.size hbA.size)
   refine AnyT.nx (i:=10) rfl ?_
   go_wp2
   refine⟨fun _=>HS.out _ hbA,?_⟩
   refine AnyT.nx (i:=11) rfl ?_
   refine zIA _ rfl (.tmp 30) (.tmp 35) 24 rfl w.heap.size 3 (.int .i64 0) 1 8 Tryz.underlying24 zEF rfl Nat.one_pos (.slice ua n2 uc) n2 _ rfl (HO2.out.alloc _) ⟨wd.heap.size,0,none⟩ 1 1 [.int .i64 x] rfl rfl (zBT wd _ _ _ rfl) (zEE _) M1.out M2.out M3.out ?_
   intro a5 c5 w5 own5 g5 hat
   have hD5:TabD (w5.setCell ⟨g1,k,none⟩ (.slice a5 (n2+1) c5)) w.heap.size (.slice (some ⟨g1,0,none⟩) n c1) (addY L0 y (k+1)):=by
    rw[HAU.out]
    exact HSET.out _ w5 _ (r++[x]) hbA g5 (by unfold OwnR;simpa[HRL.out]using own5) hat
   have hb5:Below w.heap.size w w5:=(HBK.out.trans (hbA.mono HBK.out.size)).grown g5 M3.out (fun q hq=>(HSU.out q hq).1)
   have hg5:w5.heap[g1]? =(wd.alloc (.cells #[.int .i64 x] 3)).heap[g1]? :=g5.block g1 (Nat.lt_of_lt_of_le hg0 hbA.size) (fun e=>HUN.out g1 e.symm rfl)
   have hy5:w5.heap[yb]? =(wd.alloc (.cells #[.int .i64 x] 3)).heap[yb]? :=g5.block yb (Nat.lt_of_lt_of_le hys M3.out) (fun e=>by have:=(HSU.out yb e.symm).1;omega)
   have q1:w5.cell? ⟨g1,k,none⟩=some (.slice ua n2 uc):=(World.cell?_of_block (a:=⟨g1,k,none⟩) hg5).trans (HS.out _ hbA).1
   have q2:w5.cell? ⟨yb,yo+k,none⟩=some (.int .i64 x):=(World.cell?_of_block (a:=⟨yb,yo+k,none⟩) hy5).trans (HS.out _ hbA).2
   have q3:w5.frozen? ⟨g1,k,none⟩=false:=by
    have h5:w5.heap[g1]? =wr.heap[g1]? :=hg5.trans (hbA.block g1 hg0)
    rw[<- hfu];simp[World.frozen?,h5]
   have q4:g1<w5.heap.size:=by
    rcases Nat.lt_or_ge g1 w5.heap.size with h|h
    ·exact h
    ·rw[World.cell?,Array.getElem?_eq_none h]at q1;cases q1
   have hbe:Below w.heap.size w (w5.setCell ⟨g1,k,none⟩ (.slice a5 (n2+1) c5)):=zAG hb5 hbg k _
   refine⟨fun _=>⟨q1,q2⟩,?_⟩
   have HD5:=hid hD5
   have HBE:=hid hbe
   clear own5 g5 hat hD5 hb5 hg5 hy5 hbe hbA
   refine AnyT.nx (i:=12) rfl ?_
   go_wp2
   refine⟨fun h=>absurd h (by decide),?_⟩
   refine AnyT.nx (i:=13) rfl ?_
   go_wp2
   refine⟨fun h=>absurd h (by decide),?_⟩
   refine AnyT.done (by kernel_rfl) ?_ _
   go_wp2
   exact⟨⟨k+1,by omega,by go_num,HD5.out,HBE.out⟩,by simp[intOf];omega⟩
  ·obtain rfl:k=n:=by omega
   rw[HALL.out]at hT
   have hRA:=hT.tab.rows (by rw[<- HALL.out];exact HAL.out k (Nat.le_refl _)) (fun r hr=>by rw[HYW.out r hr];unfold maxLen;omega)
   have HR1:=hid (HRd.out wr (some ⟨g1,0,none⟩) c1 hRA)
   have HBK:=hid hbk
   clear hT hRA hbk HRd
   go_wp2_with (go_at_call 225;refine HR1.out.mono ?_;rintro e w3 ⟨vD,vP,rfl,hTD,hTP,hb3⟩;refine Stop.of ?_)
   refine Stop.go ?_
   obtain⟨dA,dc,rfl⟩:∃a c,vD=.slice a K c:=by
    obtain⟨_,ho,_⟩:=hTD
    obtain⟨a',c',e⟩:=zAD ho
    exact⟨a',c',by rw[e,HDL.out]⟩
   have HDA:=hid (hTD.rows HDL.out (fun r hr=>by rw[HDW.out r hr];unfold maxLen;omega))
   obtain⟨ja,jc,rfl,hJI,hJm⟩:=zCS hTP (by unfold zLG;rw[List.length_map,HKJ.out])
   have HJI:=hid hJI
   have HBW:=hid (show Below w.heap.size w w3 from HBK.out.trans (hb3.mono HBK.out.size))
   clear hTD hTP hJI hb3 HR1 HBK
   have hmk:=zKY n2 (by omega)
   obtain⟨w7,hw7⟩:=exq (w3.alloc (.cells (madeCells #[.int .i64 0,.int .i64 0] (n2*2)) 29))
   obtain⟨g,hg⟩:=exq (w3.heap.size)
   have HRB0:=hid (show zCG w7 g (List.replicate n2 (0,0))by rw[hw7,hg];exact made_rat w3 n2)
   have HB7:=hid (show Below g w3 w7 by rw[hw7,hg];exact(Below.refl _ _).alloc (Nat.le_refl _) _)
   go_wp2_with fail
   rw[<- hg,<- hw7]
   have HG:=hid hg
   clear hg hw7 hmk
   go_wp2
   go_loopw [49] (fun i wr=>∃t:Nat,t<=n2∧i=.int .i64 t∧zCG wr g (List.replicate t (0,1)++List.replicate (n2-t) (0,0))∧Below w3.heap.size w3 wr) (fun i _=>n2-(intOf i).toNat)
   case atStart=>exact⟨0,Nat.zero_le _,rfl,by simpa using HRB0.out,by rw[<- HG.out];exact HB7.out⟩
   case round=>
    obtain⟨t,ht,rfl,hr,hbk⟩:=hrel
    by_cases hlt:t<n2
    ·have hlen:(List.replicate t ((0,1):Rt)++List.replicate (n2-t) (0,0)).length=n2:=by simp;omega
     obtain⟨⟨z0,q0⟩,⟨z1,q1⟩,f0,f1⟩:(∃z,wr.cell? ⟨g,t*2,none⟩=some (.int .i64 z))∧(∃z,wr.cell? ⟨g,t*2+1,none⟩=some (.int .i64 z))∧wr.frozen? ⟨g,t*2,none⟩=false∧wr.frozen? ⟨g,t*2+1,none⟩=false:=by
      obtain⟨q0,q1,q2⟩:=hr.cells (k:=t) (by rw[hlen];exact hlt)
      exact⟨⟨_,q0⟩,⟨_,q1⟩,q2 _,q2 _⟩
     have hst:=hr.set (k:=t) (by rw[hlen];exact hlt) 0 1
     have e1:(List.replicate t ((0,1):Rt)++List.replicate (n2-t) (0,0)).set t (0,1)=List.replicate (t+1) (0,1)++List.replicate (n2-(t+1)) (0,0):=by
      rw[List.set_append_right _ _ (by simp),show n2-t=n2-(t+1)+1 by omega,List.replicate_succ (n:=n2-(t+1)),List.replicate_succ' (n:=t)]
      simp
     rw[e1]at hst
     have hbe:Below w3.heap.size w3 ((wr.setCell ⟨g,t*2,none⟩ (.int .i64 0)).setCell ⟨g,t*2+1,none⟩ (.int .i64 1)):=zAG (zAG hbk (by rw[HG.out];exact Nat.le_refl _) _ _) (by rw[HG.out];exact Nat.le_refl _) _ _
     have hgl:=hr.lt
     have HST:=hid hst
     have HBE:=hid hbe
     have i1:(t:Int)<(n2:Int):=by omega
     clear hst hbe e1 hlen hr hbk
     go_wp2
     exact⟨⟨t+1,by omega,by go_num,HST.out,HBE.out⟩,by simp[intOf];omega⟩
    ·obtain rfl:t=n2:=by omega
     rw[Nat.sub_self,List.replicate_zero,List.append_nil]at hr
     have HR:=hid hr
     have HBK:=hid hbk
     clear hr hbk
     go_wp2
     obtain⟨outTo,hOT⟩:∃f:Nat->List Rt,f=fun k=>(List.range k).foldl (fun out i=>out.set (jf J i) (zAR (vec (D[i]?.getD []) t) (vec (D[i]?.getD []) (jf J i)))) (List.replicate t (0,1)):=⟨_,rfl⟩
     have HO0:=hid (show outTo 0=List.replicate t (0,1)by rw[hOT];rfl)
     have HOS:=hid (fun k=>show outTo (k+1)=(outTo k).set (jf J k) (zAR (vec (D[k]?.getD []) t) (vec (D[k]?.getD []) (jf J k)))by rw[hOT];simp only[];rw[List.range_succ,List.foldl_append];rfl)
     have HOE:=hid (show SV=if t∈J then([],0,false)else(outTo K,(t:Int)-K,true)by rw[HSV.out,hOT])
     have HOL:=hid (fun k=>show(outTo k).length=t by
      induction k with
      |zero=>rw[HO0.out];simp
      |succ k ih=>rw[HOS.out k];simpa using ih)
     clear hOT
     go_loopw [59] (fun i wr=>∃k:Nat,k<=K∧i=.int .i64 k∧zCG wr g (outTo k)∧Below w3.heap.size w3 wr∧Hid (∀i,i<k->jf J i≠t)) (fun i _=>K-(intOf i).toNat)
     case atStart=>exact⟨0,Nat.zero_le _,rfl,by rw[HO0.out];exact HR.out,HBK.out,hid (fun i h=>by omega)⟩
     case round=>
      obtain⟨k,hk,rfl,hr,hbk,HNE⟩:=hrel
      by_cases hlt:k<K
      ·have hkJ:k<J.length:=by rw[<- HKJ.out];exact hlt
       obtain⟨jb,jo,rfl,hjs,hcj⟩:=HJI.out k (by unfold zLG;rw[List.length_map];exact hkJ)
       have hJk:jf J k=J[k]:=by unfold jf;rw[List.getElem?_eq_getElem hkJ];rfl
       have hcv:(zLG J)[k]?.getD 0=((jf J k:Nat):Int):=by rw[hJk];unfold zLG;simp[hkJ]
       rw[hcv]at hcj
       have hjw:wr.cell? ⟨jb,jo+k,none⟩=some (.int .i64 ((jf J k:Nat):Int)):=(hbk.cell (p:=⟨jb,jo+k,none⟩) hjs).trans hcj
       have hpl:=HJLT.out k hlt
       have hzp:=HJPOS.out k hlt
       have hos:=HOS.out k
       have hmem:jf J k=t->t∈J:=fun h=>by rw[hJk]at h;rw[<- h];exact List.getElem_mem hkJ
       obtain⟨p,hp⟩:=exq (jf J k)
       rw[<- hp]at hjw hpl hzp hos hmem
       have HP:=hid hp
       clear hcj hcv hJk hp hkJ
       by_cases hpt:p=t
       ·have hse:=HOE.out
        rw[if_pos (hmem hpt)]at hse
        subst hse
        subst hpt
        have HBK:=hid hbk
        clear hr hbk hpl hzp hos hmem
        have i3:((p:Int)==(p:Int))=true:=by simp
        go_wp2
        go_ret3
        exact⟨.slice none 0 0,rfl,w.heap.size,Nat.le_refl _,zCR.nil _ _,zAA HBW.out HBK.out⟩
       ·have hp2:p<t:=by omega
        obtain⟨db,doff,ra,rn,rc,rfl,hds,hdc,hrn,hrm,hri⟩:=HDA.out k (by rw[HDL.out];exact hlt)
        have hkD:k<D.length:=by rw[HDL.out];exact hlt
        have hrw:rn=t+1:=by rw[<- hrn];exact HDW.out _ (List.getElem_mem _)
        have hvx:∀c,(D[k])[c]?.getD 0=vec (D[k]?.getD []) c:=fun c=>by rw[List.getElem?_eq_getElem hkD];rfl
        obtain⟨rb,ro,rfl,hrs,hcx⟩:=hri t (by omega)
        obtain⟨_,_,e2,_,hcz⟩:=hri p (by omega)
        cases e2
        rw[hvx]at hcx hcz
        have hbx:=zED (P:=fun x=> -((1073741824:Nat):Int)<=x∧x<=((1073741824:Nat):Int)) (by omega) (HDB.out _ (List.getElem_mem hkD))
        have hbx1:=hbx t
        have hbx2:=hbx p
        have hRk:D[k]?.getD []=D[k]:=by rw[List.getElem?_eq_getElem hkD];rfl
        rw[<- hRk]at hbx1 hbx2
        have HOf:=hid (fun(X:World)=>r3ratio_c X (vec (D[k]?.getD []) t) (vec (D[k]?.getD []) p) (by omega) (by omega) (by omega))
        obtain⟨x,hx⟩:=exq (vec (D[k]?.getD []) t)
        obtain⟨z,hz⟩:=exq (vec (D[k]?.getD []) p)
        rw[<- hx]at hcx HOf hos
        rw[<- hz]at hcz HOf hos
        obtain⟨Q,hQ⟩:=exq (zAR x z)
        rw[<- hQ]at HOf hos
        obtain⟨q1,q2⟩:=Q
        have HOSK:=hid hos
        have HOLK:=hid (HOL.out k)
        have HNE2:=hid (show ∀i,i<k+1->jf J i≠t from fun i hi=>by
         rcases Nat.lt_or_ge i k with h|h
         ·exact HNE.out i h
         ·obtain rfl:i=k:=by omega
          rw[<- HP.out];exact hpt)
        have HR:=hid hr
        have HBK:=hid hbk
        have HS:=hid (fun(X:World) (hX:Below w3.heap.size w3 X)=>show X.cell? ⟨db,doff+k,none⟩=some (.slice (some ⟨rb,ro,none⟩) rn rc)∧X.cell? ⟨rb,ro+t,none⟩=some (.int .i64 x)∧X.cell? ⟨rb,ro+p,none⟩=some (.int .i64 z)from
         ⟨(hX.cell (p:=⟨db,doff+k,none⟩) hds).trans hdc,(hX.cell (p:=⟨rb,ro+t,none⟩) hrs).trans hcx,(hX.cell (p:=⟨rb,ro+p,none⟩) hrs).trans hcz⟩)
        have i1:(k:Int)<(K:Int):=by omega
        have i2:(p:Int)<(rn:Int):=by omega
        have i4:(t:Int)<(rn:Int):=by omega
        have i5:(p:Int)<(t:Int):=by omega
        have i3:((p:Int)==(t:Int))=false:=by simp;omega
        simp only[ratV]at HOf
        clear hr hbk hzp hos hmem hbx hbx1 hbx2 hRk hx hz hQ hcx hcz hvx hri hrn hrw hdc hpl hpt
        go_wp2
        refine zAF (fun j' X=>wAll j'=true->X.cell? ⟨db,doff+k,none⟩=some (.slice (some ⟨rb,ro,none⟩) rn rc)∧X.cell? ⟨rb,ro+t,none⟩=some (.int .i64 x)∧X.cell? ⟨rb,ro+p,none⟩=some (.int .i64 z)) (by kernel_rfl) ?_
        have hbd:Below w3.heap.size w3 wr.drew:=HBK.out.drew
        have HR2:=hid (HR.out.keep (w':=wr.drew) rfl)
        generalize wr.drew=wd at hbd HR2⊢
        refine AnyT.tD (i:=0) (v:=.slice (some ⟨g,0,none⟩) t t) rfl rfl (by rintro w' ⟨y1,y2,y3⟩;go_simp) (HS.out _ hbd) ?_;go_frame
        refine AnyT.tD (i:=1) (v:=.int .i64 p) rfl rfl (by rintro w' ⟨y1,y2,y3⟩;go_simp) (HS.out _ hbd) ?_;go_frame
        refine AnyT.tD (i:=2) (v:=.slice (some ⟨db,doff,none⟩) K dc) rfl rfl (by rintro w' ⟨y1,y2,y3⟩;go_simp) (HS.out _ hbd) ?_;go_frame
        refine AnyT.tD (i:=3) (v:=.int .i64 k) rfl rfl (by rintro w' ⟨y1,y2,y3⟩;go_simp) (HS.out _ hbd) ?_;go_frame
        refine AnyT.tD (i:=4) (v:=.pointer (some ⟨db,doff+k,none⟩)) rfl rfl (by rintro w' ⟨y1,y2,y3⟩;go_simp) (HS.out _ hbd) ?_;go_frame
        refine AnyT.tD (i:=5) (v:=.slice (some ⟨rb,ro,none⟩) rn rc) rfl rfl (by rintro w' ⟨y1,y2,y3⟩;go_simp) (HS.out _ hbd) ?_;go_frame
        refine AnyT.tD (i:=6) (v:=.slice a2 t cap2) rfl rfl (by rintro w' ⟨y1,y2,y3⟩;go_simp) (HS.out _ hbd) ?_;go_frame
        refine AnyT.tD (i:=7) (v:=.int .i64 t) rfl rfl (by rintro w' ⟨y1,y2,y3⟩;go_simp) (HS.out _ hbd) ?_;go_frame
        refine AnyT.tD (i:=8) (v:=.pointer (some ⟨rb,ro+t,none⟩)) rfl rfl (by rintro w' ⟨y1,y2,y3⟩;go_simp) (HS.out _ hbd) ?_;go_frame
        refine AnyT.tD (i:=9) (v:=.int .i64 x) rfl rfl (by rintro w' ⟨y1,y2,y3⟩;go_simp) (HS.out _ hbd) ?_;go_frame
        refine AnyT.tD (i:=10) (v:=.slice (some ⟨db,doff,none⟩) K dc) rfl rfl (by rintro w' ⟨y1,y2,y3⟩;go_simp) (HS.out _ hbd) ?_;go_frame
        refine AnyT.tD (i:=11) (v:=.int .i64 k) rfl rfl (by rintro w' ⟨y1,y2,y3⟩;go_simp) (HS.out _ hbd) ?_;go_frame
        refine AnyT.tD (i:=12) (v:=.pointer (some ⟨db,doff+k,none⟩)) rfl rfl (by rintro w' ⟨y1,y2,y3⟩;go_simp) (HS.out _ hbd) ?_;go_frame
        refine AnyT.tD (i:=13) (v:=.slice (some ⟨rb,ro,none⟩) rn rc) rfl rfl (by rintro w' ⟨y1,y2,y3⟩;go_simp) (HS.out _ hbd) ?_;go_frame
        refine AnyT.tD (i:=14) (v:=.int .i64 p) rfl rfl (by rintro w' ⟨y1,y2,y3⟩;go_simp) (HS.out _ hbd) ?_;go_frame
        refine AnyT.tD (i:=15) (v:=.pointer (some ⟨rb,ro+p,none⟩)) rfl rfl (by rintro w' ⟨y1,y2,y3⟩;go_simp) (HS.out _ hbd) ?_;go_frame
        refine AnyT.tD (i:=16) (v:=.int .i64 z) rfl rfl (by rintro w' ⟨y1,y2,y3⟩;go_simp) (HS.out _ hbd) ?_;go_frame
        refine AnyT.nx (i:=17) rfl ?_
        go_wp2_with (go_at_call 250;refine(HOf.out _).mono ?_;rintro e w4 ⟨rfl,hbl4⟩;refine Stop.of ?_)
        refine Stop.go ?_
        have HB4:=hid (zAA hbd hbl4)
        have hr4:=HR2.out.keep (hbl4.block g HR2.out.lt)
        obtain⟨⟨z0,p0⟩,⟨z1,p1⟩,f0,f1⟩:(∃z,w4.cell? ⟨g,p*2,none⟩=some (.int .i64 z))∧(∃z,w4.cell? ⟨g,p*2+1,none⟩=some (.int .i64 z))∧w4.frozen? ⟨g,p*2,none⟩=false∧w4.frozen? ⟨g,p*2+1,none⟩=false:=by
         obtain⟨q0,q1,q2⟩:=hr4.cells (k:=p) (by rw[HOLK.out];exact hp2)
         exact⟨⟨_,q0⟩,⟨_,q1⟩,q2 _,q2 _⟩
        have hst:=hr4.set (k:=p) (by rw[HOLK.out];exact hp2) q1 q2
        have hbe:Below w3.heap.size w3 ((w4.setCell ⟨g,p*2,none⟩ (.int .i64 q1)).setCell ⟨g,p*2+1,none⟩ (.int .i64 q2)):=zAG (zAG HB4.out (by rw[HG.out];exact Nat.le_refl _) _ _) (by rw[HG.out];exact Nat.le_refl _) _ _
        have hgl:=hr4.lt
        rw[<- HOSK.out]at hst
        have HST:=hid hst
        have HBE:=hid hbe
        clear hbd hbl4 hst hbe hr4
        go_wp2
        refine⟨fun _=>HS.out _ HB4.out,?_⟩
        refine AnyT.nx (i:=18) rfl ?_
        go_wp2
        refine⟨fun _=>HS.out _ HB4.out,?_⟩
        refine AnyT.nx (i:=19) rfl ?_
        go_wp2
        refine⟨fun _=>HS.out _ HBE.out,?_⟩
        refine AnyT.done (by kernel_rfl) ?_ _
        go_wp2
        exact⟨⟨k+1,by omega,by go_num,HST.out,HBE.out,HNE2⟩,by simp[intOf];omega⟩
      ·obtain rfl:k=K:=by omega
       have htJ:t∉J:=fun h=>by
        obtain⟨i,hi,e⟩:=List.mem_iff_getElem.1 h
        refine HNE.out i (by rw[HKJ.out];exact hi) ?_
        unfold jf;rw[List.getElem?_eq_getElem hi];exact e
       have hse:=HOE.out
       rw[if_neg htJ]at hse
       subst hse
       have HRO:=hid (hr.own (base:=g) (HOL.out k) (by unfold maxLen;omega) (Nat.le_refl _))
       have HBK:=hid hbk
       have hsub:IntKind.i64.wrap ((t:Int)-(k:Int))=(t:Int)-(k:Int):=IntWalk.i64_in _ (by omega)
       clear hr hbk htJ
       go_wp2
       go_ret3
       exact⟨_,rfl,g,by rw[HG.out];exact HBW.out.size,HRO.out,zAA HBW.out HBK.out⟩
end
section
open Go.RowKit
theorem solve_eq{M:Mask}{l y:List Int}(h:zAU M y l=0):zCA M l y=zNV (zAK (zAS M l) y) l.length:=by
 obtain⟨hok,hyl,hmil,hso⟩:=zFG h
 obtain⟨hM,h1,h6,hc1,hc10⟩:=zDJ hok
 unfold zCA
 rw[if_pos h]
 exact zNU ((hM.cols l).addY (y:=y) (by rw[zBK];omega) (Y:=1000000) (by omega) (zHG hmil))
theorem r3Solve_c(w:World)(a a2 a3:Option Addr)(n cap n2 cap2 n3 cap3:Nat)(M:Mask)(l y:List Int)(hn:M.length=n)(hn2:l.length=n2)(hn3:y.length=n3)(hm:n<=maxLen)(hm2:n2<=maxLen)(hm3:n3<=maxLen)(H:zAN w a M)(H2:zAI w a2 l)(H3:zAI w a3 y):
 Calls Tryz.prog 175 #[.slice a n cap,.slice a2 n2 cap2,.slice a3 n3 cap3] w fun e w'=>∃v base,e=.returned (.tuple #[v,.int .i64 (zCA M l y).2])∧w.heap.size<=base∧zCR w' base v (zCA M l y).1∧Below w.heap.size w w':=by
 have HV:=hid (r2Valid_c w a n cap M hn hm H)
 have hv:zAU M y l≠0->zCA M l y=([],zAU M y l):=fun h=>by unfold zCA;rw[if_neg h]
 cases hok:okM M
 ·rw[hok]at HV
  have he:zAU M y l=1:=by unfold zAU;rw[hok];rfl
  rw[hv (by rw[he];decide),he]
  clear hn hn2 hn3 H H2 H3 hok he hv
  go_enter Tryz.func175,Tryz.ntmps175
  go_wp2_with (go_at_call 68;refine HV.out.mono ?_;rintro e w1 ⟨rfl,rfl⟩)
  go_ret2
  exact⟨.slice none 0 0,w.heap.size,rfl,Nat.le_refl _,zCR.nil _ _,Below.refl _ _⟩
 ·rw[hok]at HV
  by_cases hl:n3=n
  ·subst hl
   have hdl:((n3:Int) !=(n3:Int))=false:=by simp
   have HRD:=hid (fun(X:World) (hX:Below w.heap.size w X)=>zMJ X a3 n3 cap n3 cap3 M y a hn hn3 hm (H3.below hX))
   have HNM:=hid (r3Named_c w a a2 n3 cap n2 cap2 M l hn hn2 hm2 H H2 hok)
   have hre:zOY M y=if milB y=true then 0 else 7:=by unfold zOY;rw[if_pos (by omega)]
   have hce:zAU M y l=if milB y=true then pixE M l else 7:=by unfold zAU;rw[if_pos hok,if_pos (by omega)]
   have hpx:pixE M l=zDA (zAC M) l:=by unfold pixE;rw[if_pos hok]
   rw[hre]at HRD
   cases hmil:milB y
   ·rw[hmil]at hce HRD
    simp only[Bool.false_eq_true,if_false]at hce HRD
    rw[hv (by rw[hce];decide),hce]
    have HRD2:=hid (HRD.out w (Below.refl _ _))
    clear hn hn2 hn3 H H2 H3 hok hce hv hmil hre hpx HNM HRD
    go_enter Tryz.func175,Tryz.ntmps175
    go_wp2_with (go_at_call 68;refine HV.out.mono ?_;rintro e w1 ⟨rfl,rfl⟩;refine Stop.of ?_)
    refine Stop.go ?_
    go_wp2_with (go_at_call 134;refine HRD2.out.mono ?_;rintro e w1 ⟨rfl,rfl⟩)
    go_ret2
    exact⟨.slice none 0 0,w.heap.size,rfl,Nat.le_refl _,zCR.nil _ _,Below.refl _ _⟩
   ·rw[hmil]at hce HRD
    simp only[if_true]at hce HRD
    have HRD2:=hid (HRD.out w (Below.refl _ _))
    rw[<- hpx]at HNM
    by_cases hp:pixE M l=0
    ·have hc0:zAU M y l=0:=by rw[hce,hp]
     rw[solve_eq hc0]
     rw[hp]at HNM
     have HSO:=hid (fun(X:World) (hX:Below w.heap.size w X)=>r3solved_c X a a2 a3 n3 cap n2 cap2 cap3 M l y hn hn2 hn3 (H.below hX) (H2.below hX) (H3.below hX) hok hmil (pix_ok hp).2)
     have hsr:zNV (zAK (zAS M l) y) l.length=if (zBP (zAK (zAS M l) y) n2).2.2=false then([],8)else if 0<(zBP (zAK (zAS M l) y) n2).2.1 then([],11)else((zBP (zAK (zAS M l) y) n2).1,0):=by rw[hn2];rfl
     rw[hsr]
     obtain⟨⟨S1,S2,S3⟩,hS⟩:∃S,S=zBP (zAK (zAS M l) y) n2:=⟨_,rfl⟩
     rw[<- hS]at HSO⊢
     simp only[]at HSO⊢
     obtain⟨⟨RL,RE⟩,hR⟩:∃R:List Rt×Int,R=if S3=false then([],8)else if 0<S2 then([],11)else(S1,0):=⟨_,rfl⟩
     rw[<- hR]
     simp only[]
     have HRR:=hid hR
     clear hR
     clear hn hn2 hn3 H H2 H3 hok hce hv hmil hre hpx HRD hc0 hsr hS hp
     go_enter Tryz.func175,Tryz.ntmps175
     go_wp2_with (go_at_call 68;refine HV.out.mono ?_;rintro e w1 ⟨rfl,rfl⟩;refine Stop.of ?_)
     refine Stop.go ?_
     go_wp2_with (go_at_call 134;refine HRD2.out.mono ?_;rintro e w1 ⟨rfl,rfl⟩;refine Stop.of ?_)
     refine Stop.go ?_
     go_wp2_with (go_at_call 115;refine HNM.out.mono ?_;rintro e w2 ⟨rfl,k2,rfl⟩;refine Stop.of ?_)
     refine Stop.go ?_
     have hb2:=zAJ (Below.refl w.heap.size w) k2
     go_wp2_with (go_at_call 219;refine(HSO.out _ hb2).mono ?_;rintro e w3 ⟨v,base,rfl,hbs,hO,hb3⟩;refine Stop.of ?_)
     refine Stop.go ?_
     have hb:=zAA hb2 hb3
     have hbs':w.heap.size<=base:=Nat.le_trans hb2.size hbs
     obtain⟨va,vc,rfl⟩:=zAD hO
     have HO:=hid hO
     clear hb2 hb3 hbs hO
     cases S3
     ·obtain⟨rfl,rfl⟩:=Prod.mk.inj (HRR.out.trans (if_pos rfl))
      go_wp2
      go_ret2
      exact⟨.slice none 0 0,rfl,w.heap.size,Nat.le_refl _,zCR.nil _ _,hb⟩
     ·by_cases h0:0<S2
      ·obtain⟨rfl,rfl⟩:=Prod.mk.inj (HRR.out.trans ((if_neg (by decide)).trans (if_pos h0)))
       go_wp2
       go_ret2
       first|exact⟨.slice none 0 0,rfl,w.heap.size,Nat.le_refl _,zCR.nil _ _,hb⟩|exact⟨.slice none 0 0,w.heap.size,rfl,Nat.le_refl _,zCR.nil _ _,hb⟩
      ·obtain⟨rfl,rfl⟩:=Prod.mk.inj (HRR.out.trans ((if_neg (by decide)).trans (if_neg h0)))
       go_wp2
       go_ret2
       first|exact⟨_,rfl,base,hbs',HO.out,hb⟩|exact⟨_,base,rfl,hbs',HO.out,hb⟩
    ·have hc0:zAU M y l≠0:=by rw[hce];exact hp
     rw[hv hc0,hce]
     obtain⟨E,hE⟩:=exq (pixE M l)
     rw[<- hE]at HNM hp⊢
     have hpb:(E !=0)=true:=by simpa using hp
     clear hn hn2 hn3 H H2 H3 hok hce hv hmil hre hpx HRD hc0 hE
     go_enter Tryz.func175,Tryz.ntmps175
     go_wp2_with (go_at_call 68;refine HV.out.mono ?_;rintro e w1 ⟨rfl,rfl⟩;refine Stop.of ?_)
     refine Stop.go ?_
     go_wp2_with (go_at_call 134;refine HRD2.out.mono ?_;rintro e w1 ⟨rfl,rfl⟩;refine Stop.of ?_)
     refine Stop.go ?_
     go_wp2_with (go_at_call 115;refine HNM.out.mono ?_;rintro e w2 ⟨rfl,k2,rfl⟩)
     go_ret2
     exact⟨.slice none 0 0,w.heap.size,rfl,Nat.le_refl _,zCR.nil _ _,zAJ (Below.refl _ _) _⟩
  ·have hdl:((n3:Int) !=(n:Int))=true:=by simp;omega
   have he:zAU M y l=9:=by unfold zAU;rw[if_pos hok,if_neg (by omega)]
   rw[hv (by rw[he];decide),he]
   clear hn hn2 hn3 H H2 H3 hok he hv hl
   go_enter Tryz.func175,Tryz.ntmps175
   go_wp2_with (go_at_call 68;refine HV.out.mono ?_;rintro e w1 ⟨rfl,rfl⟩)
   go_ret2
   exact⟨.slice none 0 0,w.heap.size,rfl,Nat.le_refl _,zCR.nil _ _,Below.refl _ _⟩
end
end
end
section
open Go.RowKit
def zEN(W:World)(base:Nat)(v:Value)(l:List Rt):Prop:=
 ∃a n cap,v=.slice a n cap∧l.length=n∧n<=maxLen∧∀j (hj:j<l.length),∃b off,a=some ⟨b,off,none⟩∧b<W.heap.size∧(b<base∨∃c f,W.heap[b]? =some (.cells c 29 f))∧
  W.cell? ⟨b,off+j*2,none⟩=some (.int .i64 l[j].1)∧W.cell? ⟨b,off+j*2+1,none⟩=some (.int .i64 l[j].2)
theorem zEN.keep{W W':World}{base:Nat}{T:Nat->Prop}{v:Value}{l:List Rt}(h:zEN W base v l)(hk:Keep T W W')(hT:∀b,b<W.heap.size->(b<base∨∃c f,W.heap[b]? =some (.cells c 29 f))->T b):zEN W' base v l:=by
 obtain⟨a,n,cap,e,hn,hm,hj⟩:=h
 refine⟨a,n,cap,e,hn,hm,fun j hlt=>?_⟩
 obtain⟨b,off,e,hb,hty,h0,h1⟩:=hj j hlt
 have ht:=hT b hb hty
 refine⟨b,off,e,Nat.lt_of_lt_of_le hb hk.size,?_,hk.cell h0 ht,hk.cell h1 ht⟩
 rcases hty with h|⟨c,f,h⟩
 ·exact .inl h
 ·exact .inr ⟨c,f,(hk.block b hb ht).trans h⟩
theorem zEN.below{W W':World}{base:Nat}{v:Value}{l:List Rt}(h:zEN W base v l)(hb:Below W.heap.size W W'):zEN W' base v l:=h.keep (Keep.of_below hb:Keep (fun _=>True) _ _) (fun _ _ _=>trivial)
theorem zEN.own{W:World}{base b0:Nat}{v:Value}{l:List Rt}(h:zCR W b0 v l):zEN W base v l:=by
 rcases h.2 with⟨rfl,h0⟩|⟨g,cap,cur,rfl,hbg,hgg,hnc,hcm,hsz,htk⟩
 ·exact⟨none,0,0,rfl,h0,by decide,fun j hj=>by omega⟩
 ·refine⟨_,_,cap,rfl,rfl,by omega,fun j hj=>⟨g,0,rfl,(Array.getElem?_eq_some_iff.1 hgg).1,.inr ⟨cur,_,hgg⟩,?_⟩⟩
  have hc:∀i,i<l.length*2->W.cell? ⟨g,i,none⟩=(zAM l)[i]? :=fun i hi=>
   World.ownsRow.cellAt (w:=W) (base:=b0) (e:=29) (size:=2) (g:=g) (n:=l.length) (cap:=cap) (xs:=zAM l) ⟨h.1,.inr ⟨g,cap,cur,rfl,hbg,hgg,hnc,hcm,hsz,htk⟩⟩ i hi
  refine⟨?_,?_⟩
  ·rw[Nat.zero_add,hc _ (by omega)];exact zEQ l j 0 hj (by omega)
  ·rw[Nat.zero_add,hc _ (by omega)];exact zEQ l j 1 hj (by omega)
theorem zEN.rats{W:World}{base n cap:Nat}{a:Option Addr}{l:List Rt}(h:zEN W base (.slice a n cap) l):l.length=n∧n<=maxLen∧zBE W a l:=by
 obtain⟨a',n',cap',e,hn,hm,hj⟩:=h
 cases e
 exact⟨hn,hm,fun j hlt=>by obtain⟨b,off,e,hb,_,h0,h1⟩:=hj j hlt;exact⟨b,off,e,hb,h0,h1⟩⟩
def FitR(o:Option FitT)(e:Ending)(w':World):Prop:=
 (o=none∧e=.returned (.tuple #[.agg #[.slice none 0 0,.slice none 0 0],.bool false]))∨(∃f us ur,o=some f∧e=.returned (.tuple #[.agg #[us,ur],.bool true])∧(∀lo,zEO 3 w' lo (fun _=>True) us f.1)∧∀lo,zEN w' lo ur f.2)
theorem r4fit_c(w:World)(a a2 a3:Option Addr)(n cap n2 cap2 n3 cap3:Nat)(M:Mask)(y S:List Int)(hn:M.length=n)(hn2:y.length=n2)(hn3:S.length=n3)(hm:n<=maxLen)(hm2:n2<=maxLen)(hm3:n3<=1000)(H:zAN w a M)(H2:zAI w a2 y)(H3:zAI w a3 S):
 Calls Tryz.prog 116 #[.slice a n cap,.slice a2 n2 cap2,.slice a3 n3 cap3] w fun e w'=>FitR (fitF M y S) e w'∧Below w.heap.size w w':=by
 obtain⟨wz,hz⟩:=exq (w.alloc (.cells #[.slice none 0 0,.slice none 0 0] 73))
 have hbz:Below w.heap.size w wz:=by rw[hz];exact(Below.refl _ _).alloc (Nat.le_refl _) _
 have hq:wz.heap[w.heap.size]? =some (.cells #[.slice none 0 0,.slice none 0 0] 73 (0,0)):=by rw[hz];exact World.alloc_heap_new _ _
 have hsz:wz.heap.size=w.heap.size+1:=by rw[hz];simp
 have HSO:=hid (r3Solve_c wz a a3 a2 n cap n3 cap3 n2 cap2 M S y hn hn3 hn2 hm (Nat.le_trans hm3 (by decide)) hm2 (H.below hbz) (H3.below hbz) (H2.below hbz))
 have HFF:=hid (show fitF M y S=if (zCA M S y).2=0∧(zCA M S y).1.all (fun r=>decide (r.1≠0))=true then some (S,(zCA M S y).1)else none from rfl)
 obtain⟨F,hF⟩:=exq (fitF M y S)
 obtain⟨⟨V,E⟩,hVE⟩:∃V,V=zCA M S y:=⟨_,rfl⟩
 rw[<- hVE]at HSO HFF
 rw[<- hF]at HFF⊢
 simp only[]at HSO HFF
 have HB:=hid hbz
 have HQ:=hid (fun(X:World) (hX:Below wz.heap.size wz X)=>(hX.block w.heap.size (by omega)).trans hq)
 have HZ:=hid hz
 have HN3:=hid hn3
 have H3':=hid H3
 have HSZ:=hid hsz
 clear hn hn2 hn3 H H2 H3 hF hVE hbz hq hz hsz
 go_enter Tryz.func116,Tryz.ntmps116
 go_wp2_with fail
 rw[<- HZ.out]
 go_wp2_with (go_at_call 175;refine HSO.out.mono ?_;rintro e w1 ⟨v,base,rfl,hbs,hO,hb1⟩;refine Stop.of ?_)
 refine Stop.go ?_
 obtain⟨va,vc,rfl,hvm,hvr⟩:=hO.reads
 have HVR:=hid hvr
 have HO:=hid hO
 have HB1:=hid hb1
 have HBS:=hid hbs
 obtain⟨z0,z1,f0,f1,hlt⟩:=zBN (HQ.out w1 hb1)
 have hw1:w.heap.size<=w1.heap.size:=Nat.le_trans HB.out.size hb1.size
 clear hO hvr hb1 hbs HSO
 by_cases hE:E=0
 rotate_left
 ·obtain rfl:F=none:=by rw[HFF.out,if_neg (fun h=>hE h.1)]
  have hEb:(E !=0)=true:=by simpa using hE
  have HFI:=hid (zAG (zAG (zAA HB.out HB1.out) (Nat.le_refl _) 0 (.slice none 0 0)) (Nat.le_refl _) 1 (.slice none 0 0))
  clear hE
  go_wp2
  refine bodyPost_ret (v:=.tuple #[.agg #[.slice none 0 0,.slice none 0 0],.bool false]) ?_ rfl ⟨.inl ⟨rfl,rfl⟩,HFI.out⟩
  simp[results,Tryz.results116,go_sem,z0,z1,f0,f1,hlt]
 ·subst hE
  have hall:F=if V.all (fun r=>decide (r.1≠0))=true then some (S,V)else none:=by
   rw[HFF.out]
   by_cases h:V.all (fun r=>decide (r.1≠0))=true
   ·rw[if_pos ⟨rfl,h⟩,if_pos h]
   ·rw[if_neg (fun hh=>h hh.2),if_neg h]
  have HALL:=hid hall
  unfold maxLen at hvm
  clear hall HFF z0 z1 f0 f1 hlt
  go_wp2
  go_loopw [24] (fun i wr=>∃k:Nat,k<=V.length∧i=.int .i64 k∧Below w1.heap.size w1 wr∧∀j (hj:j<V.length),j<k->decide (V[j].1≠0)=true) (fun i _=>V.length-(intOf i).toNat)
  case atStart=>exact⟨0,Nat.zero_le _,rfl,Below.refl _ _,fun j _ h=>by omega⟩
  case round=>
   obtain⟨k,hk,rfl,hb,hno⟩:=hrel
   have HNO:=hid hno
   clear hno
   obtain⟨z0,z1,f0,f1,hlt⟩:=zBN (HQ.out wr (zAA HB1.out hb))
   by_cases hkl:k<V.length
   ·obtain⟨b,off,rfl,hbs,h0,h1⟩:=(HVR.out.below hb) k hkl
    obtain⟨⟨p,q⟩,hr⟩:∃r,r=V[k]'hkl:=⟨_,rfl⟩
    rw[<- hr]at h0 h1
    simp only[]at h0 h1
    have HR:=hid hr
    have HBB:=hid hb
    have HKL:=hid hkl
    clear hr hb
    by_cases hp:p=0
    ·subst hp
     have hbad:F=none:=by
      rw[HALL.out,if_neg]
      intro hh
      have:=List.all_eq_true.1 hh _ (List.getElem_mem HKL.out)
      rw[<- HR.out]at this
      simp at this
     subst hbad
     have hsw:w.heap.size<wr.heap.size:=hlt
     have hq3:(((wr.setCell ⟨w.heap.size,0,none⟩ (.slice none 0 0)).setCell ⟨w.heap.size,1,none⟩ (.slice none 0 0)).alloc (.cells #[.int .i64 0,.int .i64 q] 29)).heap[w.heap.size]? =some (.cells #[.slice none 0 0,.slice none 0 0] 73 (0,0)):=
      (Below.heap_alloc _ _ _ (by simp[World.setCell];omega)).trans (set2_block (HQ.out wr (zAA HB1.out HBB.out)))
     obtain⟨y0,y1,_,_,hl2⟩:=zBN hq3
     have hbS:=zAG (zAG (zAA (zAA HB.out HB1.out) HBB.out) (Nat.le_refl _) 0 (.slice none 0 0)) (Nat.le_refl _) 1 (.slice none 0 0)
     have HFI:=hid (hbS.alloc (by simp[World.setCell];omega) (.cells #[.int .i64 0,.int .i64 q] 29))
     clear hq3 hbS
     go_wp2
     refine bodyPost_ret (v:=.tuple #[.agg #[.slice none 0 0,.slice none 0 0],.bool false]) ?_ rfl ⟨.inl ⟨rfl,rfl⟩,HFI.out⟩
     simp[results,Tryz.results116,go_sem,y0,y1,hl2]
    ·have hpe:(p==0)=false:=by simpa using hp
     have HP:=hid hp
     clear hp z0 z1 f0 f1 hlt
     go_wp2
     refine⟨⟨k+1,by omega,by go_num,HBB.out.alloc HBB.out.size _,fun j hj hjk=>?_⟩,by simp[intOf];omega⟩
     by_cases e:j=k
     ·subst e;rw[<- HR.out];simpa using HP.out
     ·exact HNO.out j hj (by omega)
   ·obtain rfl:k=V.length:=by omega
    have hgood:F=some (S,V):=by
     rw[HALL.out,if_pos]
     exact List.all_eq_true.2 fun r hr=>by obtain⟨j,hj,rfl⟩:=List.getElem_of_mem hr;exact HNO.out j hj hj
    have HGO:=hid hgood
    have hbw:Below w.heap.size w wr:=zAA (zAA HB.out HB1.out) hb
    have h3i:=H3'.out.below hbw
    have hX0:a3=none->n3=0:=fun h=>by
     rcases Nat.eq_zero_or_pos n3 with h'|h'
     ·exact h'
     ·obtain⟨_,_,e,_⟩:=H3'.out 0 (by rw[HN3.out];exact h');rw[h]at e;cases e
    have hbA:Below wr.heap.size wr (wr.alloc (.cells #[] 3)):=(Below.refl _ _).alloc (Nat.le_refl _) _
    have HNX:=hid (news_ints h3i hbA)
    have M:=World.ownsRow_made (base:=wr.heap.size) (e:=3) (size:=1) wr #[] 0 (Nat.le_refl _) (Nat.zero_le _) rfl
    have HM:=hid M
    have HX0:=hid hX0
    have HBW:=hid hbw
    have HBA:=hid hbA
    have HB':=hid hb
    have hws:=Nat.le_trans hw1 hb.size
    have HQA:=hid (HQ.out wr (zAA HB1.out hb))
    clear hgood hbw h3i hX0 hbA M hb z0 z1 f0 f1 hlt
    go_wp2_with (at_builtin;refine zAQ _ rfl (.tmp 33) (.tmp 34) 24 rfl wr.heap.size 3 (.int .i64 0) 1 8 Tryz.underlying24 zEF rfl Nat.one_pos (.slice (some ⟨wr.heap.size,0,none⟩) 0 0) 0 [] rfl HM.out a3 n3 cap3 (S.map (Value.int .i64)) rfl (by rw[List.length_map,HN3.out,Nat.mul_one]) HX0.out HNX.out (zLO _) (by rw[Nat.zero_add];unfold maxLen;omega) (by omega) (by simp) ?_;intro ca cc w4 own4 g4;refine Stop.of ?_)
    refine Stop.go ?_
    have hb4:Below wr.heap.size wr w4:=HBA.out.grown g4 HBA.out.size (fun g hg=>(HM.out.lt g hg).1)
    have hown4:w4.ownsRow wr.heap.size 3 1 (.slice ca n3 cc) n3 (S.map (Value.int .i64)):=by simpa using own4
    obtain⟨z0,z1,f0,f1,hlt⟩:=zBN ((hb4.block w.heap.size (by have:=HSZ.out;have:=HB1.out.size;have:=HB'.out.size;omega)).trans HQA.out)
    have HFI:=hid (zAG (zAG (zAA HBW.out hb4) (Nat.le_refl _) 0 (.slice ca n3 cc)) (Nat.le_refl _) 1 (.slice va V.length vc))
    have hszz:w.heap.size<wr.heap.size:=by have:=HSZ.out;have:=HB1.out.size;have:=HB'.out.size;omega
    have hE1:∀lo,zEO 3 ((w4.setCell ⟨w.heap.size,0,none⟩ (.slice ca n3 cc)).setCell ⟨w.heap.size,1,none⟩ (.slice va V.length vc)) lo (fun _=>True) (.slice ca n3 cc) S:=fun lo=>
     zEO.own' (zPE (zPE hown4 _ (fun g hg=>by have:=(hown4.lt g hg).1;omega)) _ (fun g hg=>by have:=(hown4.lt g hg).1;omega)) rfl HN3.out (by unfold maxLen;omega) (fun _ _=>trivial)
    have hO4:zCR w4 base (.slice va V.length vc) V:=zCR.below HO.out (zAA HB'.out hb4)
    have hE2:∀lo,zEN ((w4.setCell ⟨w.heap.size,0,none⟩ (.slice ca n3 cc)).setCell ⟨w.heap.size,1,none⟩ (.slice va V.length vc)) lo (.slice va V.length vc) V:=fun lo=>
     zEN.own (zPE (zPE hO4 _ (fun g hg=>by have:=(hO4.lt g hg).1;have:=HBS.out;have:=HSZ.out;omega)) _ (fun g hg=>by have:=(hO4.lt g hg).1;have:=HBS.out;have:=HSZ.out;omega))
    have HE1:=hid hE1
    have HE2:=hid hE2
    clear hE1 hE2 hO4 hown4 own4 g4 hb4
    go_wp2
    refine bodyPost_ret (v:=.tuple #[.agg #[.slice ca n3 cc,.slice va V.length vc],.bool true]) ?_ rfl ⟨.inr ⟨_,_,_,HGO.out,rfl,HE1.out,HE2.out⟩,HFI.out⟩
    simp[results,Tryz.results116,go_sem,z0,z1,f0,f1,hlt]
end
section
def pw:Nat->Int
 |0=>1
 |k+1=>1000000000*pw k
theorem zKZ:∀k,0<pw k
 |0=>by decide
 |k+1=>by have:=zKZ k;rw[pw];omega
theorem pw_add(a:Nat):∀b,pw (a+b)=pw a*pw b
 |0=>by rw[Nat.add_zero,pw];simp
 |b+1=>by rw[<- Nat.add_assoc,pw,pw,pw_add a b];grind
theorem pw_mono{a b:Nat}(h:a<=b):pw a<=pw b:=by
 obtain⟨c,rfl⟩:=Nat.exists_eq_add_of_le h
 rw[pw_add]
 have h1:=zKZ a
 have h2:=zKZ c
 have:pw a*1<=pw a*pw c:=Int.mul_le_mul_of_nonneg_left (by omega) (by omega)
 omega
def valN:List Int->Int
 | []=>0
 |d::l=>d+1000000000*valN l
theorem zOS(l m:List Int):valN (l++m)=valN l+pw l.length*valN m:=by
 induction l with
 |nil=>simp[valN,pw]
 |cons d l ih=>rw[List.cons_append,valN,valN,ih,List.length_cons,pw];grind
theorem zFM(l:List Int)(d:Int):valN (l++[d])=valN l+pw l.length*d:=by
 rw[zOS,valN,valN];simp
def DigL(l:List Int):Prop:=∀d∈l,0<=d∧d<1000000000
theorem DigL.nil:DigL []:=fun d h=>by cases h
theorem DigL.snoc{l:List Int}{d:Int}(h:DigL l)(h0:0<=d)(h1:d<1000000000):DigL (l++[d]):=fun x hx=>by
 rcases List.mem_append.1 hx with hx|hx
 ·exact h x hx
 ·simp at hx;subst hx;exact⟨h0,h1⟩
theorem DigL.take{l:List Int}(h:DigL l)(k:Nat):DigL (l.take k):=fun x hx=>h x (List.mem_of_mem_take hx)
theorem DigL.bnd:∀{l:List Int},DigL l->0<=valN l∧valN l<pw l.length
 | [],_=>by simp[valN,pw]
 |d::l,h=>by
  have h1:=h d (by simp)
  have h2:=DigL.bnd (l:=l) fun x hx=>h x (by simp[hx])
  rw[valN,List.length_cons,pw]
  omega
def zGG(l:List Int):Prop:=l.getLast? ≠some 0
theorem zGG.nil:zGG []:=by simp[zGG]
theorem zGG.low{l:List Int}(hd:DigL l)(ht:zGG l)(h0:0<l.length):pw (l.length-1)<=valN l:=by
 obtain⟨m,d,rfl⟩:∃m d,l=m++[d]:=⟨l.dropLast,l.getLast (by intro e;subst e;simp at h0),(List.dropLast_concat_getLast _).symm⟩
 have hd0:d≠0:=fun e=>ht (by rw[e];simp)
 have h1:=hd d (by simp)
 have h2:=DigL.bnd (l:=m) fun x hx=>hd x (by simp[hx])
 rw[zFM,List.length_append]
 simp only[List.length_cons,List.length_nil,Nat.zero_add,Nat.add_sub_cancel]
 have h3:=zKZ m.length
 have:pw m.length*1<=pw m.length*d:=Int.mul_le_mul_of_nonneg_left (by omega) (by omega)
 omega
theorem zGG.of_low{l:List Int}(hd:DigL l)(h:0<l.length->pw (l.length-1)<=valN l):zGG l:=by
 intro he
 obtain⟨m,rfl⟩:=List.getLast?_eq_some_iff.1 he
 have h1:=h (by simp)
 rw[zFM,List.length_append]at h1
 have h2:=DigL.bnd (l:=m) fun x hx=>hd x (by simp[hx])
 simp only[List.length_cons,List.length_nil,Nat.zero_add,Nat.add_sub_cancel]at h1
 omega
theorem zMA{l:List Int}(hd:DigL l)(ht:zGG l):valN l=0↔l.length=0:=by
 constructor
 ·intro h
  rcases Nat.eq_zero_or_pos l.length with h0|h0
  ·exact h0
  ·have:=ht.low hd h0
   have:=zKZ (l.length-1)
   omega
 ·intro h
  have:=List.eq_nil_of_length_eq_zero h
  subst this;rfl
theorem trim_lt{l m:List Int}(hl:DigL l)(hm:DigL m)(ht:zGG m)(h:l.length<m.length):valN l<valN m:=by
 have h1:=hl.bnd
 have h2:=ht.low hm (by omega)
 have h3:=pw_mono (show l.length<=m.length-1 by omega)
 omega
theorem trim_le{l m:List Int}(hl:DigL l)(hm:DigL m)(ht:zGG l)(h:valN l<=valN m):l.length<=m.length:=by
 rcases Nat.lt_or_ge m.length l.length with c|c
 ·have:=trim_lt hm hl ht c;omega
 ·exact c
def digF(l:List Int)(i:Nat):Int:=l[i]?.getD 0
theorem zEL{l:List Int}(h:DigL l)(i:Nat):0<=digF l i∧digF l i<1000000000:=by
 unfold digF
 cases e:l[i]? with
 |none=>decide
 |some d=>exact h d (List.mem_of_getElem? e)
theorem zEG(l:List Int)(k:Nat):valN (l.take (k+1))=valN (l.take k)+pw k*digF l k:=by
 rcases Nat.lt_or_ge k l.length with h|h
 ·rw[List.take_succ_eq_append_getElem h,zFM,List.length_take,Nat.min_eq_left (by omega)]
  unfold digF;rw[List.getElem?_eq_getElem h];rfl
 ·rw[List.take_of_length_le (by omega),List.take_of_length_le h]
  unfold digF;rw[List.getElem?_eq_none h];simp
theorem zEH{l:List Int}{k:Nat}(h:l.length<=k):valN (l.take k)=valN l:=by rw[List.take_of_length_le h]
theorem zPP(l:List Int)(k:Nat):valN l=valN (l.take k)+pw k*valN (l.drop k):=by
 rcases Nat.lt_or_ge k l.length with h|h
 ·conv=>lhs;rw[<- List.take_append_drop k l]
  rw[zOS,List.length_take,Nat.min_eq_left (by omega)]
 ·rw[List.take_of_length_le h,List.drop_of_length_le h];simp[valN]
theorem set_val{l:List Int}{k:Nat}(h:k<l.length)(d:Int):valN (l.set k d)=valN l+pw k*(d-digF l k):=by
 have e:l.set k d=l.take k++d::l.drop (k+1):=by
  rw[List.set_eq_take_append_cons_drop,if_pos h]
 have e2:valN l=valN (l.take k)+pw k*(digF l k+1000000000*valN (l.drop (k+1))):=by
  rw[zPP l k,List.drop_eq_getElem_cons h,valN]
  unfold digF;rw[List.getElem?_eq_getElem h];rfl
 rw[e,zOS,valN,List.length_take,Nat.min_eq_left (by omega),e2]
 grind
theorem DigL.set{l:List Int}(h:DigL l){k:Nat}{d:Int}(h0:0<=d)(h1:d<1000000000):DigL (l.set k d):=fun x hx=>by
 rcases List.mem_or_eq_of_mem_set hx with h2|h2
 ·exact h x h2
 ·subst h2;exact⟨h0,h1⟩
theorem top_lt{l m:List Int}(hl:DigL l)(hm:DigL m){k:Nat}(he:∀i,k<i->digF l i=digF m i)(hlen:l.length=m.length)(h:digF l k<digF m k)(hk:k<l.length):valN l<valN m:=by
 have hdrop:l.drop (k+1)=m.drop (k+1):=by
  refine List.ext_getElem (by simp[hlen]) fun i h1 h2=>?_
  rw[List.length_drop]at h1 h2
  have:=he (k+1+i) (by omega)
  unfold digF at this
  rw[List.getElem?_eq_getElem (by omega),List.getElem?_eq_getElem (by omega)]at this
  simpa using this
 have e1:=zPP l (k+1)
 have e2:=zPP m (k+1)
 rw[zEG,hdrop]at e1
 rw[zEG]at e2
 have b1:=(hl.take k).bnd
 have b2:=(hm.take k).bnd
 rw[List.length_take,Nat.min_eq_left (by omega)]at b1
 have h3:=zKZ k
 have:pw k*(digF l k+1)<=pw k*digF m k:=Int.mul_le_mul_of_nonneg_left (by omega) (by omega)
 rw[Int.mul_add]at this
 omega
end
section
section
theorem zEJ{α:Type}(f:Nat->α)(g:Nat->Nat)(l:List α):∀(K:Nat),((List.range K).foldl (fun out i=>out.set (g i) (f i)) l).length=l.length
 |0=>by simp
 |K+1=>by rw[List.range_succ,List.foldl_append];simp[zEJ f g l K]
theorem zLB{α:Type}(f:Nat->α)(g:Nat->Nat)(l:List α):∀(K i:Nat),i<K->g i<l.length->(∀a b,a<b->b<K->g a≠g b)->((List.range K).foldl (fun out i=>out.set (g i) (f i)) l)[g i]? =some (f i)
 |0,i,h,_,_=>by omega
 |K+1,i,h,hl,hd=>by
  rw[List.range_succ,List.foldl_append]
  simp only[List.foldl_cons,List.foldl_nil]
  by_cases e:i=K
  ·subst e
   rw[List.getElem?_set_self (by rw[zEJ];exact hl)]
  ·rw[List.getElem?_set_ne (fun e2=>hd i K (by omega) (by omega) e2.symm)]
   exact zLB f g l K i (by omega) hl (fun a b h1 h2=>hd a b h1 (by omega))
end
section
open Go.RowKit
def rdE(M:Mask)(y:List Int):Int:=if okM M=true then zOY M y else 1
theorem zIJ(M:Mask)(y:List Int):rdE M y=zAU M y []:=by
 unfold rdE zAU zOY pixE zDA
 cases okM M<;>simp[ascB]
theorem zHV{M:Mask}{y:List Int}(h:rdE M y=0):okM M=true∧y.length=M.length∧milB y=true:=by
 rw[zIJ]at h
 obtain⟨h1,h2,h3,_⟩:=zFG h
 exact⟨h1,h2,h3⟩
theorem r3Read_c(w:World)(a a2:Option Addr)(n cap n2 cap2:Nat)(M:Mask)(y:List Int)(hn:M.length=n)(hn2:y.length=n2)(hm:n<=maxLen)(hm2:n2<=maxLen)(H:zAN w a M)(H2:zAI w a2 y):
 Calls Tryz.prog 71 #[.slice a n cap,.slice a2 n2 cap2] w fun e w'=>e=.returned (.int .i64 (rdE M y))∧w=w':=by
 have HV:=hid (r2Valid_c w a n cap M hn hm H)
 have HR:=hid (zMJ w a2 n cap n2 cap2 M y a hn hn2 hm2 H2)
 unfold rdE
 cases hok:okM M
 ·rw[hok]at HV
  simp only[Bool.false_eq_true,if_false]
  clear hn hn2 H H2 hok HR
  go_enter Tryz.func71,Tryz.ntmps71
  go_wp2_with (go_at_call 68;refine HV.out.mono ?_;rintro e w1 ⟨rfl,rfl⟩)
  go_ret
  exact⟨rfl,rfl⟩
 ·rw[hok]at HV
  simp only[if_true]
  clear hn hn2 H H2 hok
  go_enter Tryz.func71,Tryz.ntmps71
  go_wp2_with (go_at_call 68;refine HV.out.mono ?_;rintro e w1 ⟨rfl,rfl⟩;refine Stop.of ?_)
  refine Stop.go ?_
  go_wp2_with (go_at_call 134;refine HR.out.mono ?_;rintro e w1 ⟨rfl,rfl⟩;refine Stop.of ?_)
  refine Stop.go ?_
  go_wp2
  go_ret
  exact⟨rfl,rfl⟩
end
section
open Go.RowKit
end
section
open Go.RowKit
end
end
section
open Go.RowKit
open Classical in
noncomputable def lift (W X:World):World:=if Below W.heap.size W X then X else W
theorem zCW(W X:World):Below W.heap.size W (lift W X):=by
 unfold lift;split
 ·assumption
 ·exact Below.refl _ _
theorem lift_of{W X:World}(h:Below W.heap.size W X):X=lift W X:=by unfold lift;rw[if_pos h]
theorem zAZ{W:World}{b o:Nat}{v:Value}(hb:b<W.heap.size)(h:W.cell? ⟨b,o,none⟩=some v):∀X,(lift W X).cell? ⟨b,o,none⟩=some v:=fun X=>((zCW W X).cell (p:=⟨b,o,none⟩) hb).trans h
theorem zCE{P:Program}{f:FuncId}{args:Array Value}{W X:World}{v:Value}(h:Calls P f args (lift W X) fun e w'=>e=.returned v∧Below (lift W X).heap.size (lift W X) w'):
 Calls P f args (lift W X) fun e w''=>e=.returned v∧∃Y,w''=lift W Y:=
 h.mono fun e w' ⟨he,hb⟩=>⟨he,w',lift_of (zAA (zCW W X) hb)⟩
theorem zDF{P:Program}{id:Nat}{Q:Exit->Act->World->Prop}{a:Act}{w:World}{l:List Oper}(hm:P.follows .mixedOrders=true)(hB:Region.lexB .any l.toArray=true)
 (h:wpQuiet P l.toArray (fun w'=>∃X,w'=lift w X) (fun a'=>∀w',(∃X,w'=lift w X)->Q .normal a' w') l a):(Code.region id l.toArray true).wp P Q a w:=
 wp_region_quiet (C:=fun w'=>∃X,w'=lift w X) hm hB ⟨_,lift_of (⟨rfl,rfl,rfl,Nat.le_refl _,fun _ _=>rfl⟩:Below w.heap.size w {w with drawn:=w.drawn+1})⟩ (by simpa using h)
end
end Go.Proofs.YtlffndehhhpgjaaGreat
