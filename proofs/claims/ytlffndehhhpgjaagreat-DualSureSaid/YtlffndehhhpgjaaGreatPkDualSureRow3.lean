/- Walks and plain laws for DualSureRow, part 3. -/
import Derived.StillTailTactics
import Derived.Maps.RangeWalk
import Derived.Deep.CutRange
import Derived.Maps.AppendAt
import Derived.Test.YtlffndehhhpgjaaGreatPkDualSureRow2
namespace Go.Proofs.YtlffndehhhpgjaaGreat
set_option linter.unusedVariables false
set_option linter.unusedSimpArgs false
set_option maxRecDepth 100000
set_option maxHeartbeats 4000000
section
open Go.RowKit
def zBS(w:World)(g:Nat)(l:List Int):Prop:=∃sp:List Value,w.heap[g]? =some (.cells (l.map (Value.int .i64)++sp).toArray 3 (0,0))
theorem zBS.lt{w:World}{g:Nat}{l:List Int}(h:zBS w g l):g<w.heap.size:=by obtain⟨sp,h⟩:=h;exact(Array.getElem?_eq_some_iff.1 h).1
theorem zBS.cell{w:World}{g:Nat}{l:List Int}(h:zBS w g l){j:Nat}(hj:j<l.length):w.cell? ⟨g,j,none⟩=some (.int .i64 (l[j]?.getD 0)):=by
 obtain⟨sp,h⟩:=h
 simp[World.cell?,h,List.getElem?_append_left,hj]
theorem zBS.frozen{w:World}{g:Nat}{l:List Int}(h:zBS w g l)(j:Nat):w.frozen? ⟨g,j,none⟩=false:=by
 obtain⟨sp,h⟩:=h
 simp[World.frozen?,h]
theorem zBS.keep{w w':World}{g:Nat}{l:List Int}(h:zBS w g l)(hk:w'.heap[g]? =w.heap[g]?):zBS w' g l:=by
 obtain⟨sp,h⟩:=h;exact⟨sp,hk.trans h⟩
theorem zBS.set{w:World}{g:Nat}{l:List Int}(h:zBS w g l)(j:Nat)(hj:j<l.length)(n:Int):zBS (w.setCell ⟨g,j,none⟩ (.int .i64 n)) g (l.set j n):=by
 obtain⟨sp,h⟩:=h
 refine⟨sp,?_⟩
 rw[zBA h]
 congr 2
 apply Array.toList_inj.1
 simp[List.set_append,hj,List.map_set]
theorem zBS.ints{w:World}{g:Nat}{l:List Int}(h:zBS w g l):zAE w (some ⟨g,0,none⟩) l:=
 fun j hj=>⟨g,0,rfl,h.lt,by rw[Nat.zero_add];exact h.cell hj⟩
def OwnM(w:World)(base:Nat)(v:Value)(M:Mask):Prop:=
 ∃(g:Nat->Nat) (vs:List Value),w.ownsRow base 24 1 v M.length vs∧(∀i j,i<M.length->j<M.length->g i=g j->i=j)∧
  ∀j (hj:j<M.length),(∃x,vs[j]? =some (.slice (some ⟨g j,0,none⟩) M[j].length (M[j].length+x)))∧base<=g j∧zBS w (g j) M[j]
theorem OwnM.nil(w:World)(base:Nat):OwnM w base (.slice none 0 0) []:=
 ⟨fun _=>0,[],World.ownsRow_nil _ _ _ _,fun i j hi=>by simp at hi,fun j hj=>by simp at hj⟩
theorem OwnM.keep{w w':World}{base:Nat}{v:Value}{M:Mask}(h:OwnM w base v M)(hk:∀k,base<=k->k<w.heap.size->w'.heap[k]? =w.heap[k]?):OwnM w' base v M:=by
 obtain⟨g,vs,ho,hi,he⟩:=h
 refine⟨g,vs,⟨ho.1,?_⟩,hi,fun j hj=>?_⟩
 ·rcases ho.2 with hn|⟨g,cap,cur,rfl,hb,hgg,rest⟩
  ·exact .inl hn
  ·exact .inr ⟨g,cap,cur,rfl,hb,(hk g hb (Array.getElem?_eq_some_iff.1 hgg).1).trans hgg,rest⟩
 ·obtain⟨h1,h2,h3⟩:=he j hj
  exact⟨h1,h2,h3.keep (hk _ h2 h3.lt)⟩
theorem OwnM.snoc{w w1 w3:World}{base gn cap:Nat}{v v':Value}{M:Mask}{r:List Int}{g:Nat->Nat}{vs:List Value}
 (ho:w.ownsRow base 24 1 v M.length vs)(hin:∀i j,i<M.length->j<M.length->g i=g j->i=j)
 (he:∀j (hj:j<M.length),(∃x,vs[j]? =some (.slice (some ⟨g j,0,none⟩) M[j].length (M[j].length+x)))∧base<=g j∧zBS w (g j) M[j])
 (hb1:Below w.heap.size w w1)(hr:zBS w1 gn r)(hgn:w.heap.size<=gn)(hcap:r.length<=cap)(hbase:base<=w.heap.size)(hg:w1.grownBy w3 v.ownBlock)
 (ho':w3.ownsRow base 24 1 v' (M.length+1) (vs++[.slice (some ⟨gn,0,none⟩) r.length cap])):OwnM w3 base v' (M++[r]):=by
 have hlen:vs.length=M.length:=by have:=ho.1;omega
 have hown:∀b,v.ownBlock=some b->b<w.heap.size∧∃c f,w.heap[b]? =some (.cells c 24 f):=by
  intro b hb
  rcases ho.2 with⟨rfl,_⟩|⟨g,cap,cur,rfl,hbg,hgg,_⟩
  ·simp[Value.ownBlock]at hb
  ·obtain rfl:g=b:=by simpa[Value.ownBlock]using hb
   exact⟨(Array.getElem?_eq_some_iff.1 hgg).1,cur,_,hgg⟩
 have hold:∀b l,zBS w b l->w3.heap[b]? =w.heap[b]? :=by
  intro b l hs
  refine(hg.block b (Nat.lt_of_lt_of_le hs.lt hb1.size) ?_).trans (hb1.block b hs.lt)
  intro e
  obtain⟨_,c,f,hc⟩:=hown b e.symm
  obtain⟨sp,hs⟩:=hs
  rw[hs]at hc
  simp at hc
 have hnew:w3.heap[gn]? =w1.heap[gn]? :=by
  refine hg.block gn hr.lt ?_
  intro e
  have:=(hown gn e.symm).1
  omega
 refine⟨fun j=>if j<M.length then g j else gn,vs++[.slice (some ⟨gn,0,none⟩) r.length cap],by simpa using ho',?_,?_⟩
 ·intro i j hi hj e
  simp only[List.length_append,List.length_cons,List.length_nil,Nat.zero_add]at hi hj
  by_cases h1:i<M.length<;>by_cases h2:j<M.length<;>simp only[h1,h2,if_true,if_false]at e
  ·exact hin i j h1 h2 e
  ·have:=(he i h1).2.2.lt;omega
  ·have:=(he j h2).2.2.lt;omega
  ·omega
 ·intro j hj
  simp only[List.length_append,List.length_cons,List.length_nil,Nat.zero_add]at hj
  by_cases h1:j<M.length
  ·obtain⟨⟨c,hc⟩,h2,h3⟩:=he j h1
   simp only[h1,if_true]
   rw[List.getElem_append_left h1]
   exact⟨⟨c,by rw[List.getElem?_append_left (by omega)];exact hc⟩,h2,h3.keep (hold _ _ h3)⟩
  ·obtain rfl:j=M.length:=by omega
   simp only[Nat.lt_irrefl,if_false]
   rw[List.getElem_append_right (Nat.le_refl _)]
   simp only[Nat.sub_self,List.getElem_cons_zero]
   exact⟨⟨cap-r.length,by rw[List.getElem?_append_right (by omega),hlen,show r.length+(cap-r.length)=cap by omega];simp⟩,by omega,hr.keep hnew⟩
theorem zKL{w:World}{b0:Nat}{v:Value}{l:List Int}{n:Nat}(h:w.ownsRow b0 3 1 v n (l.map (Value.int .i64)))(hn:l.length=n)(h0:0<n):∃g cap,v=.slice (some ⟨g,0,none⟩) n cap∧b0<=g∧zBS w g l:=by
 rcases h.2 with⟨rfl,h1⟩|⟨g,cap,cur,rfl,hbg,hgg,hnc,hcm,hsz,htk⟩
 ·omega
 ·refine⟨g,cap,rfl,hbg,cur.toList.drop n,?_⟩
  rw[hgg]
  congr 2
  apply Array.toList_inj.1
  simp only[Nat.mul_one]at htk
  rw[<- htk]
  simp
theorem own_cap{w:World}{base size n cap:Nat}{T:TypeId}{a:Option Addr}{xs:List Value}(h:w.ownsRow base T size (.slice a n cap) n xs):n<=cap:=by
 rcases h.2 with⟨e,rfl⟩|⟨g,c,cur,e,hbg,hgg,hnc,_⟩
 ·exact Nat.zero_le _
 ·cases e;exact hnc
def OwnT(w:World)(base top:Nat)(v:Value)(M:List (List Int)):Prop:=
 ∃(g:Nat->Nat) (vs:List Value),w.ownsRow base 24 1 v M.length vs∧(∀k,v.ownBlock=some k->k<top)∧(∀i j,i<M.length->j<M.length->g i=g j->i=j)∧
  ∀j (hj:j<M.length),(∃x,vs[j]? =some (.slice (some ⟨g j,0,none⟩) M[j].length (M[j].length+x)))∧base<=g j∧g j<top∧zBS w (g j) M[j]
theorem OwnT.of{w:World}{base:Nat}{v:Value}{M:List (List Int)}(h:OwnM w base v M):OwnT w base w.heap.size v M:=by
 obtain⟨g,vs,ho,hi,he⟩:=h
 exact⟨g,vs,ho,fun k hk=>(ho.lt k hk).2,hi,fun j hj=>by obtain⟨h1,h2,h3⟩:=he j hj;exact⟨h1,h2,h3.lt,h3⟩⟩
theorem OwnT.keep{w w':World}{base top:Nat}{v:Value}{M:List (List Int)}(h:OwnT w base top v M)(hk:∀k,base<=k->k<top->k<w.heap.size->w'.heap[k]? =w.heap[k]?):OwnT w' base top v M:=by
 obtain⟨g,vs,ho,ht,hi,he⟩:=h
 refine⟨g,vs,⟨ho.1,?_⟩,ht,hi,fun j hj=>?_⟩
 ·rcases ho.2 with hn|⟨g,cap,cur,rfl,hb,hgg,rest⟩
  ·exact .inl hn
  ·exact .inr ⟨g,cap,cur,rfl,hb,(hk g hb (ht g rfl) (Array.getElem?_eq_some_iff.1 hgg).1).trans hgg,rest⟩
 ·obtain⟨h1,h2,h3,h4⟩:=he j hj
  exact⟨h1,h2,h3,h4.keep (hk _ h2 h3 h4.lt)⟩
theorem OwnT.at{w:World}{base top:Nat}{v:Value}{M:List (List Int)}(h:OwnT w base top v M)(i:Nat)(hi:i<M.length):
 ∃g0 cap gi c,v=.slice (some ⟨g0,0,none⟩) M.length cap∧g0<w.heap.size∧base<=g0∧g0<top∧w.cell? ⟨g0,i,none⟩=some (.slice (some ⟨gi,0,none⟩) M[i].length c)∧(∀j,w.frozen? ⟨g0,j,none⟩=false)∧base<=gi∧gi<top∧g0≠gi∧zBS w gi M[i]∧M.length<=maxLen∧M.length<=cap∧
  ∀w' r',r'.length=M[i].length->zBS w' gi r'->(∀k,base<=k->k<top->k<w.heap.size->k≠gi->w'.heap[k]? =w.heap[k]?)->OwnT w' base top v (M.set i r'):=by
 obtain⟨g,vs,ho,ht,hin,he⟩:=h
 rcases ho.2 with⟨rfl,h0⟩|⟨g0,cap,cur,rfl,hbg,hgg,hnc,hcm,hsz,htk⟩
 ·omega
 obtain⟨⟨c,h1⟩,h2,h3,h4⟩:=he i hi
 have hc:=World.ownsRow.cellAt (w:=w) (base:=base) (e:=24) (size:=1) (g:=g0) (n:=M.length) (cap:=cap) (xs:=vs) ⟨ho.1,.inr ⟨g0,cap,cur,rfl,hbg,hgg,hnc,hcm,hsz,htk⟩⟩ i (by omega)
 have hne:g0≠g i:=by
  intro e
  obtain⟨sp,h4⟩:=h4
  rw[<- e,hgg]at h4
  cases h4
 refine⟨g0,cap,g i,_,rfl,(Array.getElem?_eq_some_iff.1 hgg).1,hbg,ht g0 rfl,by rw[hc,h1],fun j=>by simp[World.frozen?,hgg],h2,h3,hne,h4,by omega,hnc,?_⟩
 intro w' r' hl hr hk
 refine⟨g,vs,⟨by simpa using ho.1,.inr ⟨g0,cap,cur,by simp,hbg,(hk g0 hbg (ht g0 rfl) (Array.getElem?_eq_some_iff.1 hgg).1 hne).trans hgg,by simpa using hnc,hcm,hsz,by simpa using htk⟩⟩,ht,fun a b ha hb=>hin a b (by simpa using ha) (by simpa using hb),fun j hj=>?_⟩
 have hj':j<M.length:=by simpa using hj
 obtain⟨⟨c',h1'⟩,h2',h3',h4'⟩:=he j hj'
 by_cases e:i=j
 ·subst e
  refine⟨⟨c',?_⟩,h2',h3',?_⟩
  ·rw[h1'];simp[hl]
  ·simpa using hr
 ·refine⟨⟨c',?_⟩,h2',h3',?_⟩
  ·rw[h1'];simp[List.getElem_set_ne e]
  ·rw[List.getElem_set_ne e]
   exact h4'.keep (hk _ h2' h3' h4'.lt (fun e'=>e ((hin j i hj' hi e').symm)))
theorem swap_get{α:Type}{l:List α}{i j k:Nat}(hi:i<l.length)(hj:j<l.length):((l.set i l[j]).set j l[i])[k]? =if k=j then some l[i]else if k=i then some l[j]else l[k]? :=by
 rw[List.getElem?_set,List.getElem?_set]
 by_cases e1:k=j
 ·subst e1;simp[hj]
 ·rw[if_neg (Ne.symm e1),if_neg e1]
  by_cases e2:k=i
  ·subst e2;simp[hi]
  ·rw[if_neg (Ne.symm e2),if_neg e2]
theorem OwnT.swap{w:World}{base top:Nat}{v:Value}{M:List (List Int)}(h:OwnT w base top v M){i j:Nat}(hi:i<M.length)(hj:j<M.length){g0 cap:Nat}{hi' hj':Value}(hv:v=.slice (some ⟨g0,0,none⟩) M.length cap)
 (ci:w.cell? ⟨g0,i,none⟩=some hi')(cj:w.cell? ⟨g0,j,none⟩=some hj'):
 OwnT ((w.setCell ⟨g0,i,none⟩ hj').setCell ⟨g0,j,none⟩ hi') base top v ((M.set i M[j]).set j M[i])∧∀k,k≠g0->((w.setCell ⟨g0,i,none⟩ hj').setCell ⟨g0,j,none⟩ hi').heap[k]? =w.heap[k]? :=by
 have hkeep:∀k,k≠g0->((w.setCell ⟨g0,i,none⟩ hj').setCell ⟨g0,j,none⟩ hi').heap[k]? =w.heap[k]? :=fun k hk=>
  (Below.heap_setCell _ _ _ _ hk).trans (Below.heap_setCell _ _ _ _ hk)
 refine⟨?_,hkeep⟩
 obtain⟨g,vs,ho,ht,hin,he⟩:=h
 subst hv
 rcases ho.2 with⟨hc,h0⟩|⟨g1,cap',cur,hv,hbg,hgg,hnc,hcm,hsz,htk⟩
 ·cases hc
 cases hv
 have hcell:=World.ownsRow.cellAt (w:=w) (base:=base) (e:=24) (size:=1) (g:=g0) (n:=M.length) (cap:=cap) (xs:=vs) ⟨ho.1,.inr ⟨g0,cap,cur,rfl,hbg,hgg,hnc,hcm,hsz,htk⟩⟩
 have hvl:vs.length=M.length:=by have:=ho.1;omega
 have ei:vs[i]'(by omega)=hi':=by have:=hcell i (by omega);rw[ci,List.getElem?_eq_getElem (by omega)]at this;exact(Option.some.inj this).symm
 have ej:vs[j]'(by omega)=hj':=by have:=hcell j (by omega);rw[cj,List.getElem?_eq_getElem (by omega)]at this;exact(Option.some.inj this).symm
 have hb2:((w.setCell ⟨g0,i,none⟩ hj').setCell ⟨g0,j,none⟩ hi').heap[g0]? =some (.cells ((cur.setIfInBounds i hj').setIfInBounds j hi') 24 (0,0)):=zBA (zBA hgg i hj') j hi'
 have hcl:cur.toList.length=cap:=by simpa using hsz
 have hML:M.length<=cap:=hnc
 refine⟨fun k=>if k=j then g i else if k=i then g j else g k,(vs.set i (vs[j]'(by omega))).set j (vs[i]'(by omega)),⟨by simpa using ho.1,.inr ⟨g0,cap,(cur.setIfInBounds i hj').setIfInBounds j hi',by simp,hbg,hb2,by simpa using hnc,hcm,by simpa using hsz,?_⟩⟩,ht,?_,?_⟩
 ·rw[ei,ej,<- htk]
  simp only[Array.toList_setIfInBounds,List.length_set,Nat.mul_one]
  rw[List.take_set,List.take_set]
 ·intro a b ha hb
  have ha':a<M.length:=by simpa using ha
  have hb':b<M.length:=by simpa using hb
  have hs:∀k,(if k=j then g i else if k=i then g j else g k)=g (if k=j then i else if k=i then j else k):=fun k=>by
   by_cases e1:k=j
   ·rw[if_pos e1,if_pos e1]
   ·rw[if_neg e1,if_neg e1]
    by_cases e2:k=i
    ·rw[if_pos e2,if_pos e2]
    ·rw[if_neg e2,if_neg e2]
  have hlt:∀k,k<M.length->(if k=j then i else if k=i then j else k)<M.length:=fun k hk=>by
   split
   ·exact hi
   ·split
    ·exact hj
    ·exact hk
  intro hg
  simp only[hs]at hg
  have h2:=hin _ _ (hlt a ha') (hlt b hb') hg
  clear hg hs hlt hin he
  (repeat' split at h2)<;>omega
 ·intro k hk
  have hk':k<M.length:=by simpa using hk
  have hm:=swap_get (k:=k) hi hj
  rw[List.getElem?_eq_getElem (by simpa using hk')]at hm
  have hs:=swap_get (l:=vs) (i:=i) (j:=j) (k:=k) (by omega) (by omega)
  have hsp:∀x,x<M.length->((w.setCell ⟨g0,i,none⟩ hj').setCell ⟨g0,j,none⟩ hi').heap[g x]? =w.heap[g x]? :=fun x hx=>hkeep _ (by
   intro e
   obtain⟨_,_,_,sp,h4⟩:=he x hx
   rw[e,hgg]at h4
   cases h4)
  by_cases e1:k=j
  ·subst e1
   obtain⟨⟨c',h1'⟩,h2',h3',h4'⟩:=he i hi
   simp only[if_true]at hm hs⊢
   have hm':=Option.some.inj hm
   rw[hm']
   refine⟨⟨c',?_⟩,h2',h3',h4'.keep (hsp i hi)⟩
   rw[hs,<- h1',List.getElem?_eq_getElem]
  ·by_cases e2:k=i
   ·subst e2
    obtain⟨⟨c',h1'⟩,h2',h3',h4'⟩:=he j hj
    simp only[if_neg e1,if_true]at hm hs⊢
    have hm':=Option.some.inj hm
    rw[hm']
    refine⟨⟨c',?_⟩,h2',h3',h4'.keep (hsp j hj)⟩
    rw[hs,<- h1',List.getElem?_eq_getElem]
   ·obtain⟨⟨c',h1'⟩,h2',h3',h4'⟩:=he k hk'
    simp only[if_neg e1,if_neg e2]at hm hs⊢
    rw[List.getElem?_eq_getElem hk']at hm
    have hm':=Option.some.inj hm
    rw[hm']
    refine⟨⟨c',?_⟩,h2',h3',h4'.keep (hsp k hk')⟩
    rw[hs,h1']
theorem own_keep{S:Nat->Prop}{W W':World}{base size n:Nat}{T:TypeId}{v:Value}{xs:List Value}(h:W.ownsRow base T size v n xs)(hk:Keep S W W')(h1:∀k,base<=k->S k):W'.ownsRow base T size v n xs:=by
 refine⟨h.1,?_⟩
 rcases h.2 with hn|⟨g,cap,cur,rfl,hbg,hgg,rest⟩
 ·exact .inl hn
 ·exact .inr ⟨g,cap,cur,rfl,hbg,(hk.block g (Array.getElem?_eq_some_iff.1 hgg).1 (h1 g hbg)).trans hgg,rest⟩
theorem zBQ{W W':World}{base size n:Nat}{T:TypeId}{v:Value}{xs:List Value}(h:W.ownsRow base T size v n xs)(hb:Below W.heap.size W W'):W'.ownsRow base T size v n xs:=
 own_keep (S:=fun _=>True) h (Keep.of_below hb) (fun _ _=>trivial)
theorem OwnT.info{w:World}{base top g0 n cap:Nat}{M:List (List Int)}(h:OwnT w base top (.slice (some ⟨g0,0,none⟩) n cap) M)(hn:M.length=n):base<=g0∧g0<top∧g0<w.heap.size∧n<=cap∧cap<=maxLen∧(∀j,w.frozen? ⟨g0,j,none⟩=false)∧∃c f,w.heap[g0]? =some (.cells c 24 f):=by
 subst hn
 obtain⟨g,vs,ho,ht,hin,he⟩:=h
 rcases ho.2 with⟨hc,h0⟩|⟨g1,cap1,cur,e,hbg,hgg,hnc,hcm,hsz,htk⟩
 ·cases hc
 ·cases e
  exact⟨hbg,ht g0 rfl,(Array.getElem?_eq_some_iff.1 hgg).1,hnc,hcm,fun j=>by simp[World.frozen?,hgg],cur,_,hgg⟩
theorem OwnT.rowsAt{w:World}{base top g0 n cap:Nat}{M:List (List Int)}(h:OwnT w base top (.slice (some ⟨g0,0,none⟩) n cap) M)(hn:M.length=n)(hl:∀r∈M,r.length<=maxLen):zAL w (some ⟨g0,0,none⟩) M:=by
 subst hn
 intro j hj
 obtain⟨g0',cap',gi,c,e,hlt,_,_,hc,_,_,_,_,hr,_⟩:=h.at j hj
 cases e
 exact⟨g0,0,some ⟨gi,0,none⟩,_,c,rfl,hlt,by rw[Nat.zero_add];exact hc,rfl,hl _ (List.getElem_mem hj),hr.ints⟩
theorem OwnT.row{w:World}{base top g0 n cap:Nat}{M:List (List Int)}(h:OwnT w base top (.slice (some ⟨g0,0,none⟩) n cap) M)(hn:M.length=n)(i:Nat)(hi:i<M.length):
 ∃gi c,w.cell? ⟨g0,i,none⟩=some (.slice (some ⟨gi,0,none⟩) M[i].length c)∧base<=gi∧gi<top∧g0≠gi∧zBS w gi M[i]∧
  ∀w' r',r'.length=M[i].length->zBS w' gi r'->(∀k,base<=k->k<top->k<w.heap.size->k≠gi->w'.heap[k]? =w.heap[k]?)->OwnT w' base top (.slice (some ⟨g0,0,none⟩) n cap) (M.set i r'):=by
 subst hn
 obtain⟨g0',cap',gi,c,e,_,_,_,hc,_,h1,h2,h3,h4,_,_,h5⟩:=h.at i hi
 cases e
 exact⟨gi,c,hc,h1,h2,h3,h4,h5⟩
theorem OwnT.ne{w:World}{base top g0 n cap:Nat}{M:List (List Int)}(h:OwnT w base top (.slice (some ⟨g0,0,none⟩) n cap) M)(hn:M.length=n){i j:Nat}(hi:i<M.length)(hj:j<M.length)(hne:i≠j){gi gj ni nj ci cj:Nat}
 (h1:w.cell? ⟨g0,i,none⟩=some (.slice (some ⟨gi,0,none⟩) ni ci))(h2:w.cell? ⟨g0,j,none⟩=some (.slice (some ⟨gj,0,none⟩) nj cj)):gi≠gj:=by
 subst hn
 obtain⟨g,vs,ho,ht,hin,he⟩:=h
 have hcell:∀k,k<M.length->w.cell? ⟨g0,k,none⟩=vs[k]? :=fun k hk=>by
  have:=World.ownsRow.cellAt (w:=w) (base:=base) (e:=24) (size:=1) (g:=g0) (n:=M.length) (cap:=cap) (xs:=vs) ho k (by omega)
  exact this
 obtain⟨⟨c,k1⟩,_⟩:=he i hi
 obtain⟨⟨c',k2⟩,_⟩:=he j hj
 rw[hcell i hi,k1]at h1
 rw[hcell j hj,k2]at h2
 cases h1;cases h2
 exact fun e=>hne (hin i j hi hj e)
end
section
open Go.RowKit
def BndL(B:Nat)(l:List Int):Prop:=∀x∈l,-(B:Int)<=x∧x<=B
theorem BndL.get{B:Nat}{l:List Int}(h:BndL B l){k:Nat}(hk:k<l.length): -(B:Int)<=l[k]?.getD 0∧l[k]?.getD 0<=B:=by
 rw[List.getElem?_eq_getElem hk];exact h _ (List.getElem_mem hk)
theorem gcdL_le{B:Nat}{l:List Int}(h:BndL B l):gcdL l<=B:=by
 by_cases h0:gcdL l=0
 ·omega
 ·obtain⟨x,hx,hx0⟩:∃x∈l,x≠0:=Classical.byContradiction fun hn=>h0 (by
   have hz:∀x∈l,(0:Int)∣x:=fun x hx=>by
    have:x=0:=Classical.byContradiction fun c=>hn ⟨x,hx,c⟩
    rw[this];exact Int.dvd_refl _
   exact Int.zero_dvd.1 (zNM hz))
  have h1:=zJX hx
  have h2:=h x hx
  have h3:gcdL l∣((x.natAbs:Nat):Int):=Int.dvd_natAbs.2 h1
  have:=Int.le_of_dvd (by omega) h3
  omega
theorem gcdL_take{l:List Int}{k:Nat}(hk:k<l.length):gcdL (l.take (k+1))=(Int.gcd (gcdL (l.take k)) (l[k]?.getD 0):Nat):=by
 rw[List.take_succ_eq_append_getElem hk,List.getElem?_eq_getElem hk]
 unfold gcdL
 rw[List.foldl_append];rfl
theorem BndL.take{B:Nat}{l:List Int}(h:BndL B l)(k:Nat):BndL B (l.take k):=fun x hx=>h x (List.mem_of_mem_take hx)
def zIW(f:Int->Int)(l:List Int)(k:Nat):List Int:=(l.take k).map f++l.drop k
theorem zMC(f:Int->Int)(l:List Int):zIW f l 0=l:=by simp[zIW]
theorem halfF_all(f:Int->Int)(l:List Int):zIW f l l.length=l.map f:=by simp[zIW]
theorem zHX(f:Int->Int)(l:List Int)(k:Nat):(zIW f l k).length=l.length:=by
 unfold zIW;simp;omega
theorem halfF_at(f:Int->Int){l:List Int}{k:Nat}(hk:k<l.length):(zIW f l k)[k]?.getD 0=l[k]?.getD 0:=by
 unfold zIW
 rw[List.getElem?_append_right (by simp;omega)]
 simp only[List.length_map,List.length_take,List.getElem?_drop]
 congr 2;omega
theorem halfF_set(f:Int->Int){l:List Int}{k:Nat}(hk:k<l.length):(zIW f l k).set k (f (l[k]?.getD 0))=zIW f l (k+1):=by
 unfold zIW
 have hl:((l.take k).map f).length=k:=by simp;omega
 rw[List.set_append_right _ _ (by omega),hl,Nat.sub_self,List.drop_eq_getElem_cons hk,List.take_succ_eq_append_getElem hk,List.getElem?_eq_getElem hk,List.set_cons_zero,List.map_append]
 simp
theorem zMR{x g B:Int}(hg:1<=g)(h: -B<=x∧x<=B): -B<=x.tdiv g∧x.tdiv g<=B:=by
 have h1:(x.tdiv g).natAbs<=x.natAbs:=by rw[Int.natAbs_tdiv];exact Nat.div_le_self _ _
 omega
theorem shortened_c(w:World)(b n cap:Nat)(l:List Int)(hn:l.length=n)(hm:n<=maxLen)(H:zBS w b l)(hB:BndL 4611686018427387904 l):
 Calls Tryz.prog 223 #[.slice (some ⟨b,0,none⟩) n cap] w fun e w'=>e=.returned (.tuple #[])∧zBS w' b (zBO l)∧Keep (fun k=>k≠b) w w':=by
 have HN:=hid hn
 have HH:=hid H
 have HBL:=hid hB
 have HGT:=hid (fun(k:Nat) (hk:k<l.length)=>gcdL_take hk)
 have HG0:=hid (fun k=>zGV (l.take k))
 have HGL:=hid (fun k=>gcdL_le (hB.take k))
 clear hn H hB
 unfold maxLen at hm
 go_enter Tryz.func223,Tryz.ntmps223
 go_wp2
 go_loopw [2,8] (fun g i wr=>∃k:Nat,k<=n∧i=.int .i64 k∧g=.int .i64 (gcdL (l.take k))∧∃q,wr=w.drewN q) (fun _ i _=>n-(intOf i).toNat)
 case atStart=>exact⟨0,Nat.zero_le _,rfl,rfl,0,rfl⟩
 case round=>
  obtain⟨k,hk,rfl,rfl,q,rfl⟩:=hrel
  by_cases hlt:k<n
  ·have hkl:k<l.length:=by rw[HN.out];exact hlt
   have hc:=HH.out.cell hkl
   have hbd:=HBL.out.get hkl
   have hg1:=HG0.out k
   have hg2:=HGL.out k
   have HE:=hid (HGT.out k hkl)
   obtain⟨x,hx⟩:=exq (l[k]?.getD 0)
   obtain⟨g,hg⟩:=exq (gcdL (l.take k))
   rw[<- hx]at hc hbd HE
   rw[<- hg]at hg1 hg2 HE⊢
   have HD:=hid (zIB (w.drewN q) g x (by omega) (by omega))
   clear hx hg hbd hg1 hg2 hkl
   go_wp2_with (go_at_call 206;refine HD.out.mono ?_;rintro e w1 ⟨rfl,q1,rfl⟩)
   exact⟨⟨k+1,by omega,by go_num,by rw[HE.out],q+q1,rfl⟩,by simp[intOf];omega⟩
  ·obtain rfl:k=n:=by omega
   have e:l.take k=l:=List.take_of_length_le (by rw[HN.out];exact Nat.le_refl _)
   rw[e]
   have hg1:=zGV l
   have hg2:=gcdL_le HBL.out
   obtain⟨g,hg⟩:=exq (gcdL l)
   rw[<- hg]at hg1 hg2⊢
   have HR:=hid (show zBS (w.drewN q) b l from HH.out)
   have HK0:=hid (show Keep (fun k=>k≠b) w (w.drewN q)from(Keep.refl _ _).drewN q)
   have HGE:=hid hg
   clear e hg HG0 HGL HGT
   generalize w.drewN q=w1 at HR HK0⊢
   by_cases h1:1<g
   ·go_wp2
    go_loopw [18] (fun i wr=>∃t:Nat,t<=k∧i=.int .i64 t∧zBS wr b (zIW (fun x=>x.tdiv g) l t)∧Keep (fun k=>k≠b) w1 wr) (fun i _=>k-(intOf i).toNat)
    case atStart=>exact⟨0,Nat.zero_le _,rfl,by rw[zMC];exact HR.out,Keep.refl _ _⟩
    case round=>
     obtain⟨t,ht,rfl,hr,hkp⟩:=hrel
     by_cases hlt2:t<k
     ·have htl:t<l.length:=by rw[HN.out];exact hlt2
      have hc:=hr.cell (j:=t) (by rw[zHX];exact htl)
      rw[halfF_at _ htl]at hc
      have hz:=hr.frozen t
      have hbd:=HBL.out.get htl
      have hst:=halfF_set (fun x=>x.tdiv g) htl
      have HSET:=hid (fun v=>hr.set t (by rw[zHX];exact htl) v)
      have hlt3:=hr.lt
      obtain⟨x,hx⟩:=exq (l[t]?.getD 0)
      rw[<- hx]at hc hbd hst
      have htd:=zMR (show 1<=g by omega) hbd
      have HST:=hid hst
      have HW:=hid (show IntKind.i64.wrap (x.tdiv g)=x.tdiv g from IntWalk.i64_in _ (by omega))
      have HKP:=hid hkp
      clear hx hst hr hkp htl
      go_wp2
      exact⟨⟨t+1,by omega,by go_num,by rw[<- HST.out];exact HSET.out _,HKP.out.trans (Keep.set wr b t _)⟩,by simp[intOf];omega⟩
     ·obtain rfl:t=k:=by omega
      go_wp2
      go_end0
      refine⟨rfl,?_,HK0.out.trans hkp⟩
      rw[<- HN.out,halfF_all]at hr
      unfold zBO
      rw[<- HGE.out,if_pos h1];exact hr
   ·go_wp2
    go_loopw [18] (fun i wr=>∃t:Nat,t<=k∧i=.int .i64 t∧zBS wr b l∧Keep (fun k=>k≠b) w1 wr) (fun i _=>k-(intOf i).toNat)
    case atStart=>exact⟨0,Nat.zero_le _,rfl,HR.out,Keep.refl _ _⟩
    case round=>
     obtain⟨t,ht,rfl,hr,hkp⟩:=hrel
     by_cases hlt2:t<k
     ·go_wp2
      exact⟨⟨t+1,by omega,by go_num,hr,hkp⟩,by simp[intOf];omega⟩
     ·obtain rfl:t=k:=by omega
      go_wp2
      go_end0
      refine⟨rfl,?_,HK0.out.trans hkp⟩
      unfold zBO
      rw[<- HGE.out,if_neg (by omega)];exact hr
def mixF(f:Int->Int->Int)(l m:List Int)(k:Nat):List Int:=(List.zipWith f l m).take k++l.drop k
theorem mixF_zero(f:Int->Int->Int)(l m:List Int):mixF f l m 0=l:=by simp[mixF]
theorem mixF_len(f:Int->Int->Int){l m:List Int}(h:l.length=m.length)(k:Nat):(mixF f l m k).length=l.length:=by
 unfold mixF;simp;omega
theorem mixF_all(f:Int->Int->Int){l m:List Int}(h:l.length=m.length):mixF f l m l.length=List.zipWith f l m:=by
 unfold mixF
 rw[List.take_of_length_le (by simp;omega)];simp
theorem mixF_at(f:Int->Int->Int){l m:List Int}(h:l.length=m.length){k:Nat}(hk:k<l.length):(mixF f l m k)[k]?.getD 0=l[k]?.getD 0:=by
 unfold mixF
 rw[List.getElem?_append_right (by simp;omega)]
 simp only[List.length_take,List.length_zipWith,List.getElem?_drop]
 congr 2;omega
theorem mixF_set(f:Int->Int->Int){l m:List Int}(h:l.length=m.length){k:Nat}(hk:k<l.length):(mixF f l m k).set k (f (l[k]?.getD 0) (m[k]?.getD 0))=mixF f l m (k+1):=by
 unfold mixF
 have hl:((List.zipWith f l m).take k).length=k:=by simp;omega
 rw[List.set_append_right _ _ (by omega),hl,Nat.sub_self,List.drop_eq_getElem_cons hk,List.take_succ_eq_append_getElem (by simp;omega),List.getElem?_eq_getElem hk,List.getElem?_eq_getElem (by omega),List.set_cons_zero,List.getElem_zipWith]
 simp
theorem zIT{a b A B:Int}(h1: -A<=a∧a<=A)(h2: -B<=b∧b<=B): -(A*B)<=a*b∧a*b<=A*B:=zJC h1 h2
theorem cleared_c(w:World)(b n cap b2 cap2:Nat)(l m:List Int)(hn:l.length=n)(hn2:m.length=n)(hm:n<=maxLen)(H:zBS w b l)(H2:zBS w b2 m)(hne:b≠b2)(hB:BndL 1073741824 l)(hB2:BndL 1073741824 m)(j:Nat)(hj:j<n)(h0:vec m j≠0):
 Calls Tryz.prog 230 #[.slice (some ⟨b,0,none⟩) n cap,.slice (some ⟨b2,0,none⟩) n cap2,.int .i64 j] w fun e w'=>e=.returned (.tuple #[])∧zBS w' b (zFM l m j)∧Keep (fun k=>k≠b) w w':=by
 have hlm:l.length=m.length:=by omega
 have c1:=H.cell (j:=j) (by omega)
 have c2:=H2.cell (j:=j) (by omega)
 have hb1:=hB.get (k:=j) (by omega)
 have hb2:=hB2.get (k:=j) (by omega)
 obtain⟨x,hx⟩:=exq (l[j]?.getD 0)
 obtain⟨y,hy⟩:=exq (m[j]?.getD 0)
 have hy0:y≠0:=by rw[hy];exact h0
 rw[<- hx]at c1 hb1
 rw[<- hy]at c2 hb2
 have HX:=hid (show vec l j=x from hx.symm)
 have HY:=hid (show vec m j=y from hy.symm)
 have HD:=hid (fun(W:World)=>zIB W x y (by omega) (by omega))
 obtain⟨g,hg⟩:∃g:Int,g=(Int.gcd x y:Nat):=⟨_,rfl⟩
 have hg0:0<g:=by
  rw[hg]
  have:0<Int.gcd x y:=Int.gcd_pos_of_ne_zero_right _ hy0
  omega
 rw[<- hg]at HD
 have HG:=hid hg
 have HLM:=hid hlm
 have HN:=hid hn
 have HH:=hid H
 have HH2:=hid H2
 have HBL:=hid hB
 have HBL2:=hid hB2
 have HNE:=hid hne
 have hj1:(0:Int)<=(j:Int):=by omega
 have hj2:(j:Int)<(n:Int):=by omega
 clear hx hy hg hn hn2 H H2 hB hB2 h0 hy0 hlm hne
 unfold maxLen at hm
 go_enter Tryz.func230,Tryz.ntmps230
 go_wp2
 go_quiet (fail)
 go_wp2_with (go_at_call 206;refine(HD.out _).mono ?_;rintro e w1 ⟨rfl,q1,rfl⟩)
 have HR:=hid (show zBS (w.drewN (nq+q1)) b l from HH.out)
 have HR2:=hid (show zBS (w.drewN (nq+q1)) b2 m from HH2.out)
 have HK0:=hid (show Keep (fun k=>k≠b) w (w.drewN (nq+q1))from(Keep.refl _ _).drewN _)
 generalize w.drewN (nq+q1)=w1 at HR HR2 HK0⊢
 clear HH HH2 HD c1 c2 hj1 hj2
 have ht1:=zMR (show 1<=g by omega) hb1
 have ht2:=zMR (show 1<=g by omega) hb2
 obtain⟨F,hF⟩:∃F:Int->Int->Int,F=fun u v=>u*y.tdiv g-v*x.tdiv g:=⟨_,rfl⟩
 have HF:=hid hF
 have wx:IntKind.i64.wrap (x.tdiv g)=x.tdiv g:=IntWalk.i64_in _ (by omega)
 have wy:IntKind.i64.wrap (y.tdiv g)=y.tdiv g:=IntWalk.i64_in _ (by omega)
 have HB1:=hid ht1
 have HB2:=hid ht2
 clear hF ht1 ht2 hb1 hb2
 go_wp2
 go_loopw [23] (fun i wr=>∃t:Nat,t<=n∧i=.int .i64 t∧zBS wr b (mixF F l m t)∧Keep (fun k=>k≠b) w1 wr) (fun i _=>n-(intOf i).toNat)
 case atStart=>exact⟨0,Nat.zero_le _,rfl,by rw[mixF_zero];exact HR.out,Keep.refl _ _⟩
 case round=>
  obtain⟨t,ht,rfl,hr,hkp⟩:=hrel
  by_cases hlt:t<n
  ·have htl:t<l.length:=by rw[HN.out];exact hlt
   have htm:t<m.length:=by rw[<- HLM.out];exact htl
   have c1:=hr.cell (j:=t) (by rw[mixF_len _ HLM.out];exact htl)
   rw[mixF_at _ HLM.out htl]at c1
   have hr2:zBS wr b2 m:=HR2.out.keep (hkp.block b2 HR2.out.lt (Ne.symm HNE.out))
   have c2:=hr2.cell htm
   have hz:=hr.frozen t
   have hb1:=HBL.out.get htl
   have hb2:=HBL2.out.get htm
   have hst:=mixF_set F HLM.out htl
   have HSET:=hid (fun(W:World) (hW:W.heap[b]? =wr.heap[b]?) v=>(hr.keep hW).set t (by rw[mixF_len _ HLM.out];exact htl) v)
   have hlt3:=hr.lt
   obtain⟨u,hu⟩:=exq (l[t]?.getD 0)
   obtain⟨v,hv⟩:=exq (m[t]?.getD 0)
   rw[<- hu]at c1 hb1 hst
   rw[<- hv]at c2 hb2 hst
   have p1:=zIT hb1 HB2.out
   have p2:=zIT hb2 HB1.out
   have w1':IntKind.i64.wrap (u*y.tdiv g)=u*y.tdiv g:=IntWalk.i64_in _ (by omega)
   have w2':IntKind.i64.wrap (v*x.tdiv g)=v*x.tdiv g:=IntWalk.i64_in _ (by omega)
   have w3':IntKind.i64.wrap (u*y.tdiv g-v*x.tdiv g)=u*y.tdiv g-v*x.tdiv g:=IntWalk.i64_in _ (by omega)
   have HST:=hid (show(mixF F l m t).set t (u*y.tdiv g-v*x.tdiv g)=mixF F l m (t+1)by rw[<- hst,HF.out])
   have HKP:=hid hkp
   have ht1:(0:Int)<=(t:Int):=by omega
   have ht2:(t:Int)<(n:Int):=by omega
   clear hu hv hst hr hr2 hkp htl htm hb1 hb2 p1 p2
   go_wp2
   have hgz:¬(g=0):=by omega
   go_still_tail 20,(by kernel_rfl)
   change wpList _ _ _ _ _ wr.drew
   go_wp2
   refine⟨⟨t+1,by omega,by go_num,?_,(HKP.out.drewN 1).trans (Keep.set wr.drew b t _)⟩,by simp[intOf];omega⟩
   rw[<- HST.out]
   exact HSET.out wr.drew rfl _
  ·obtain rfl:t=n:=by omega
   rw[<- HN.out,mixF_all _ HLM.out]at hr
   have hzl:(List.zipWith F l m).length=t:=by simp;have:=HLM.out;have:=HN.out;omega
   have hbz:BndL 4611686018427387904 (List.zipWith F l m):=by
    intro z hz
    obtain⟨i,hi,rfl⟩:=List.mem_iff_getElem.1 hz
    have hil:i<l.length:=by have:=HN.out;omega
    have him:i<m.length:=by have:=HLM.out;omega
    have hb1:=HBL.out _ (List.getElem_mem hil)
    have hb2:=HBL2.out _ (List.getElem_mem him)
    have hFe:F l[i] m[i]=l[i]*y.tdiv g-m[i]*x.tdiv g:=by have:=HF.out;rw[this]
    have p1:=zIT hb1 HB2.out
    have p2:=zIT hb2 HB1.out
    rw[List.getElem_zipWith,hFe]
    omega
   have HS:=hid (shortened_c wr b t cap (List.zipWith F l m) hzl (by unfold maxLen;omega) hr hbz)
   have HKP:=hid hkp
   clear hr hzl hbz hkp
   go_wp2_with (go_at_call 223;refine HS.out.mono ?_;rintro e w3 ⟨rfl,hs3,hk3⟩)
   go_end0
   refine⟨rfl,?_,(HK0.out.trans HKP.out).trans hk3⟩
   have e:zFM l m j=zBO (List.zipWith F l m):=by
    unfold zFM
    simp only[]
    rw[HX.out,HY.out,<- HG.out,<- HF.out]
   rw[e];exact hs3
end
section
open Go.RowKit
def wAll(_:Nat):Bool:=true
theorem AnyT.takeD{P:Program}{md:Region.Mode}{ops:Array Oper}{Q:Exit->Act->World->Prop}{S:World->Prop}{i d:Nat}{oi:Oper}{v:Value}{fuel:Nat}{listed:Array Bool}{a:Act}{w:World}{Wf:Nat->Bool}(hi:ops[i]? =some oi)(hd:oi.dst=some d)
 (hs:Region.noSelect ops=true)(hf:Region.free md ops listed i=true)(hr:(Region.ready md ops listed).contains i=true)
 (hQ:∀c a w,Q (.panic c) (a.put (some d) v) w->Q (.panic c) a w)
 (hW:(List.range ops.size).all (fun j=>waits md ops i j||Wf j)=true)(hw:Region.wanted oi (yielded ops a.tmps)=true)(hy:∀w,S w->(execOp a.eval oi).run P w=.ok (.value v) w)(hS:S w)
 (h:AnyT P md ops Q (fun j w=>Wf j=true->S w) fuel (listed.setIfInBounds i true) (a.put (some d) v) w):AnyT P md ops Q (fun j w=>Wf j=true->S w) (fuel+1) listed a w:=
 AnyT.takeW hi hs hf hr (by rw[hd];exact hQ) hW hw hy hS (by rw[hd];exact h)
theorem AnyT.tD{P:Program}{md:Region.Mode}{ops:Array Oper}{Q:Exit->Act->World->Prop}{S:World->Prop}{i d:Nat}{oi:Oper}{v:Value}{fuel:Nat}{listed:Array Bool}{a:Act}{w:World}{Wf:Nat->Bool}(hi:ops[i]? =some oi)(hd:oi.dst=some d)(hy:∀w,S w->(execOp a.eval oi).run P w=.ok (.value v) w)(hS:S w)
 (h:AnyT P md ops Q (fun j w=>Wf j=true->S w) fuel (listed.setIfInBounds i true) (a.put (some d) v) w)
 (hs:Region.noSelect ops=true:=by kernel_rfl)(hf:Region.free md ops listed i=true:=by kernel_rfl)(hr:(Region.ready md ops listed).contains i=true:=by kernel_rfl)(hQ:∀c a w,Q (.panic c) (a.put (some d) v) w->Q (.panic c) a w:=by first|exact(fun _ _ _ h=>h)|exact(fun _ _ _ h=>absurd h.1 (by simp)))(hW:(List.range ops.size).all (fun j=>waits md ops i j||Wf j)=true:=by kernel_rfl)(hw:Region.wanted oi (yielded ops a.tmps)=true:=by rfl):AnyT P md ops Q (fun j w=>Wf j=true->S w) (fuel+1) listed a w:=
 AnyT.takeD hi hd hs hf hr hQ hW hw hy hS h
end
section
open Go.RowKit
section
variable {P:Program} {md:Region.Mode} {ops:Array Oper} {Q:Exit->Act->World->Prop} {S:World->Prop} {T:Nat->World->Prop}
theorem AnyT.firstU{i:Nat}{oi:Oper}{v:Value}(U:Nat->Prop)(hi:ops[i]? =some oi)(hsel:∀(j:Nat) (o:Oper) cs b,ops[j]? =some o->o.op≠.select cs b)
 (hQ:∀c a w,Q (.panic c) (a.put oi.dst v) w->Q (.panic c) a w)
 (hT:∀(j:Nat) oj,U j->ops[j]? =some oj->(∀e∈oj.after,Region.binds md e=true->e.on≠i)->∀w,T j w->S w)(hTi:∀w,S w->T i w):
 ∀(fuel:Nat) (listed:Array Bool) (a:Act) (w:World),(∀j,listed.getD j true=false->U j)->
  (∀j oj,ops[j]? =some oj->j≠i->listed.getD j true=false->(∀e∈oj.after,Region.binds md e=true->e.on≠i)->oi.apart ops oj=true)->
  i∈Region.ready md ops listed->YieldsIf P ops S oi v a->S w->
  AnyT P md ops Q T fuel (listed.setIfInBounds i true) (a.put oi.dst v) w->AnyT P md ops Q T (fuel+1) listed a w:=by
 intro fuel
 induction fuel with
 |zero=>
  intro listed a w _ _ hr hy hS H
  refine⟨fun h=>(by rw[h]at hr;cases hr),fun j hj=>?_⟩
  by_cases e:j=i
  ·subst e;exact hy.wpOp hi hS ⟨hTi w hS,H⟩
  ·have h0:=ready_mono hj e
   rw[H.1]at h0;cases h0
 |succ fuel ih=>
  intro listed a w hU hfree hr hy hS H
  refine⟨fun h=>(by rw[h]at hr;cases hr),fun j hj=>?_⟩
  by_cases e:j=i
  ·subst e;exact hy.wpOp hi hS ⟨hTi w hS,H⟩
  ·obtain⟨hun,oj,hoj,hall⟩:=mem_ready.1 hj
   have hnot:∀x∈oj.after,Region.binds md x=true->x.on≠i:=by
    intro x hx hb heq
    have h1:=hall x hx hb
    have h0:=(mem_ready.1 hr).1
    rw[heq]at h1
    rcases Nat.lt_or_ge i listed.size with hlt|hge
    ·simp[hlt]at h0 h1;rw[h0]at h1;cases h1
    ·simp[Array.getElem?_eq_none hge]at h1
   refine wpOp_mono (fun a' w' h3=>?_) (wpOp_putIf hoj (hfree j oj hoj e hun hnot) (fun cs b=>hsel i oi cs b hi) (fun cs b=>hsel j oj cs b hoj) hQ hy (H.2 j (ready_mono hj e)))
   have hS':=hT j oj (hU j hun) hoj hnot w' h3.2.1
   refine⟨h3.2.1,ih (listed.setIfInBounds j true) a' w' ?_ ?_ (ready_mono hr (fun h=>e h.symm)) h3.1 hS' ?_⟩
   ·intro k hk
    refine hU k ?_
    by_cases hjk:j=k
    ·subst hjk;exact hun
    ·rwa [getD_set_ne true hjk]at hk
   ·intro k ok hk hki hkun hno
    refine hfree k ok hk hki ?_ hno
    by_cases hjk:j=k
    ·subst hjk;exact hun
    ·rwa [getD_set_ne true hjk]at hkun
   ·rw[Array.setIfInBounds_comm _ _ e];exact h3.2.2
theorem AnyT.takeS{i d:Nat}{oi:Oper}{v:Value}{fuel:Nat}{listed:Array Bool}{a:Act}{w:World}{Wf:Nat->Bool}(hi:ops[i]? =some oi)(hd:oi.dst=some d)
 (hs:Region.noSelect ops=true)(hf:Region.free md ops listed i=true)(hr:(Region.ready md ops listed).contains i=true)
 (hQ:∀c a w,Q (.panic c) (a.put (some d) v) w->Q (.panic c) a w)
 (hW:(List.range ops.size).all (fun j=>listed.getD j true||waits md ops i j||Wf j)=true)(hw:Region.wanted oi (yielded ops a.tmps)=true)(hy:∀w,S w->(execOp a.eval oi).run P w=.ok (.value v) w)(hS:S w)
 (h:AnyT P md ops Q (fun j w=>Wf j=true->S w) fuel (listed.setIfInBounds i true) (a.put (some d) v) w):AnyT P md ops Q (fun j w=>Wf j=true->S w) (fuel+1) listed a w:=
 AnyT.firstU (fun j=>listed.getD j true=false) hi (Region.noSelect_spec hs) (by rw[hd];exact hQ) (fun j oj hun hj hno w hT=>hT (by
  have hlt:j<ops.size:=(Array.getElem?_eq_some_iff.1 hj).1
  have h1:=List.all_eq_true.1 hW j (List.mem_range.2 hlt)
  rw[hun]at h1
  have h2:waits md ops i j=false:=by
   unfold waits;rw[hj]
   simp only[Array.any_eq_false]
   intro k hk
   have:=hno oj.after[k] (Array.getElem_mem hk)
   cases hb:Region.binds md oj.after[k]<;>simp[hb]at this⊢
   exact this
  rw[h2]at h1;simpa using h1)) (fun w hS _=>hS) fuel listed a w (fun _ h=>h) (Region.free_spec hi hf) (by simpa using hr) (.inl ⟨hw,hy⟩) hS (by rw[hd];exact h)
theorem AnyT.takeP{i d:Nat}{oi:Oper}{v:Value}{fuel:Nat}{listed:Array Bool}{a:Act}{w:World}{Wf:Nat->Bool}{S':World->Prop}(hi:ops[i]? =some oi)(hd:oi.dst=some d)(hWi:Wf i=false)
 (hs:Region.noSelect ops=true)(hf:Region.free md ops listed i=true)(hr:(Region.ready md ops listed).contains i=true)
 (hQ:∀c a w,Q (.panic c) (a.put (some d) v) w->Q (.panic c) a w)
 (hw:Region.wanted oi (yielded ops a.tmps)=true)(hy:∀w,(execOp a.eval oi).run P w=.ok (.value v) w)
 (h:AnyT P md ops Q (fun j w=>Wf j=true->S' w) fuel (listed.setIfInBounds i true) (a.put (some d) v) w):AnyT P md ops Q (fun j w=>Wf j=true->S' w) (fuel+1) listed a w:=
 AnyT.firstU (S:=fun _=>True) (fun _=>True) hi (Region.noSelect_spec hs) (by rw[hd];exact hQ) (fun _ _ _ _ _ _ _=>trivial) (fun w _ h=>by rw[hWi]at h;cases h) fuel listed a w (fun _ _=>trivial)
  (Region.free_spec hi hf) (by simpa using hr) (.inl ⟨hw,fun w _=>hy w⟩) trivial (by rw[hd];exact h)
end
def w2(x y j:Nat):Bool:=decide (j=x)||decide (j=y)
end
section
open Go.RowKit
theorem zGP:(Tryz.prog.info? 3).map (fun i=>(i.zero,i.size,i.bytes))=some (some (.int .i64 0),1,8):=by kernel_rfl
theorem li_ints:(Tryz.prog.info? 24).map (fun i=>(i.zero,i.size,i.bytes))=some (some (.slice none 0 0),1,24):=by kernel_rfl
theorem zKX(x:Int):∀u∈[Value.int .i64 x],u.oneCell'=true:=by intro u hu;simp at hu;subst hu;rfl
def PredRok(P:Program)(g:Nat)(lb:Array Value)(w:World)(ok:List Int->Prop)(p:List Int->Bool):Prop:=
 ∀(l:List Int) (v:Value) (W:World),ok l->Below w.heap.size w W->SlV W v l->Calls P g (#[v]++lb) W fun e W'=>e=.returned (.bool (p l))∧Below W.heap.size W W'
theorem indexRok(w:World)(a:Option Addr)(n cap:Nat)(l:List (List Int))(hn:l.length=n)(hm:n<=maxLen)(H:zAL w a l)(g:Nat)(lb:Array Value)(ok:List Int->Prop)(p:List Int->Bool)
 (eg:∀args w,(callFunc g args).run Tryz.prog w=.ok (.enter g args) w)(hp:PredRok Tryz.prog g lb w ok p)(hok:∀x∈l,ok x):
 Calls Tryz.prog 228 #[.slice a n cap,.func (.func g) #[] lb] w fun e w'=>e=.returned (.int .i64 (idxP p l 0))∧Below w.heap.size w w':=by
 have HN:=hid hn
 have HH:=hid H
 have HP:=hid hp
 have HOK:=hid hok
 clear hn H hp hok
 unfold maxLen at hm
 go_enter Tryz.func228,Tryz.ntmps228
 go_wp2
 go_loopw [8] (fun i wr=>∃k:Nat,k<=n∧i=.int .i64 k∧Below w.heap.size w wr∧∀i y,i<k->l[i]? =some y->p y=false) (fun i _=>n-(intOf i).toNat)
 case atStart=>exact⟨0,Nat.zero_le _,rfl,Below.refl _ _,fun i y h=>by omega⟩
 case round=>
  obtain⟨k,hk,rfl,hb,hno⟩:=hrel
  have HNO:=hid hno
  clear hno
  by_cases hlt:k<n
  ·have hkl:k<l.length:=by rw[HN.out];exact hlt
   obtain⟨b,off,ra,rn,rc,rfl,hbs,h0,hrn,hrm,hri⟩:=(HH.out.below hb) k hkl
   have HV:=hid (show SlV wr (.slice ra rn rc) l[k]from⟨ra,rn,rc,rfl,hrn,hrm,hri⟩)
   clear hrn hri
   have HK:=hid (List.getElem?_eq_getElem hkl)
   have HO:=hid (HOK.out _ (List.getElem_mem hkl))
   cases hpx:p l[k]
   ·go_wp2_with (refine(HP.out _ _ _ HO.out hb HV.out).mono ?_;rintro e w1 ⟨rfl,hb1⟩)
    refine⟨⟨k+1,by omega,by go_num,zAB hb hb1,?_⟩,by simp[intOf];omega⟩
    intro i y hi hy
    by_cases e:i=k
    ·subst e;rw[HK.out]at hy;cases hy;exact hpx
    ·exact HNO.out i y (by omega) hy
   ·go_wp2_with (refine(HP.out _ _ _ HO.out hb HV.out).mono ?_;rintro e w1 ⟨rfl,hb1⟩)
    go_ret
    refine⟨zBP ?_,zAB hb hb1⟩
    rw[zIV p l 0 k _ HK.out hpx HNO.out];simp
  ·go_wp2
   go_ret
   refine⟨zBP ?_,hb⟩
   rw[zGJ]
   intro x hx
   obtain⟨i,hi,e⟩:=List.getElem_of_mem hx
   exact HNO.out i x (by have:=HN.out;omega) (by rw[List.getElem?_eq_getElem hi,e])
theorem idxP_find{α:Type}(p:α->Bool):∀(l:List α) (k:Nat),idxP p l k=match l.findIdx? p with|some i=>((k+i:Nat):Int)|none=> -1
 | [],k=>rfl
 |x::l,k=>by
  unfold idxP
  rw[List.findIdx?_cons]
  by_cases h:p x=true
  ·rw[if_pos h,if_pos h];simp
  ·rw[if_neg h,if_neg h,idxP_find p l (k+1)]
   cases l.findIdx? p with
   |none=>rfl
   |some i=>simp only[Option.map_some];congr 1;omega
theorem reduce1(w:World)(b j:Nat)(hb:b<w.heap.size)(hc:w.cell? ⟨b,0,none⟩=some (.int .i64 j)):PredRok Tryz.prog 229 #[.pointer (some ⟨b,0,none⟩)] w (fun l=>j<l.length) (nz j):=by
 intro l v W hj hbw hv
 have hc':W.cell? ⟨b,0,none⟩=some (.int .i64 j):=(hbw.cell (p:=⟨b,0,none⟩) hb).trans hc
 obtain⟨ra,rn,rc,rfl,hrn,hrm,hri⟩:=hv
 obtain⟨b',off,rfl,hbs,hq⟩:=hri j hj
 have HNZ:=hid (show nz j l=decide (l[j]?.getD 0≠0)from rfl)
 obtain⟨x,hx⟩:=exq (l[j]?.getD 0)
 rw[<- hx]at hq HNZ
 have hjn:j<rn:=by omega
 unfold maxLen at hrm
 clear hx hri hrn hc hj
 by_cases h0:x=0
 all_goals
  have hd:(x !=0)=decide (x≠0):=by rw[Bool.eq_iff_iff];simp
  have HX:=hid h0
  first
   |rw[decide_eq_false (by simpa using h0)]at hd
   |rw[decide_eq_true h0]at hd
  clear h0
  go_enter Tryz.func229,Tryz.ntmps229
  go_wp2
  go_ret
  exact⟨zAX (by rw[HNZ.out];have:=HX.out;simp[this]),Below.refl _ _⟩
def zBH(L:List (List Int))(p:List Int)(k j i:Nat):List (List Int):=L.mapIdx (fun q row=>if q<i then zES p k j q row else row)
theorem zLI(L:List (List Int))(p:List Int)(k j i:Nat):(zBH L p k j i).length=L.length:=by simp[zBH]
theorem clearTo_zero(L:List (List Int))(p:List Int)(k j:Nat):zBH L p k j 0=L:=by
 refine List.ext_getElem (by simp[zBH]) fun i h1 h2=>?_
 simp[zBH]
theorem clearTo_all(L:List (List Int))(p:List Int)(k j:Nat):zBH L p k j L.length=L.mapIdx (zES p k j):=by
 refine List.ext_getElem (by simp[zBH]) fun i h1 h2=>?_
 have:i<L.length:=by simpa using h2
 simp[zBH,this]
theorem zEK{L:List (List Int)}{p:List Int}{k j i q:Nat}(hq:q<L.length):(zBH L p k j i)[q]'(by rw[zLI];exact hq)=if q<i then zES p k j q L[q]else L[q]:=by simp[zBH]
theorem clearTo_set{L:List (List Int)}{p:List Int}{k j i:Nat}(hi:i<L.length):(zBH L p k j i).set i (zES p k j i L[i])=zBH L p k j (i+1):=by
 refine List.ext_getElem (by simp[zBH]) fun q h1 h2=>?_
 have hq:q<L.length:=by simpa[zBH]using h2
 rw[List.getElem_set]
 by_cases e:i=q
 ·subst e;rw[if_pos rfl,zEK hi,if_pos (by omega)]
 ·rw[if_neg e,zEK hq,zEK hq]
  by_cases c:q<i
  ·rw[if_pos c,if_pos (by omega)]
  ·rw[if_neg c,if_neg (by omega)]
def Out(base top:Nat)(k:Nat):Prop:=k<base∨top<=k
theorem pRed_K(L:List (List Int)):∀t,(pRed L t).2.length<=L.length
 |0=>Nat.zero_le _
 |t+1=>by
  rw[zHO]
  have h:=pRed_K L t
  have hl:=zEP L t
  unfold zKS
  split
  ·exact h
  ·rename_i a ha
   obtain⟨h1,_⟩:=zGA ha
   rw[List.length_drop]at h1
   simp only[List.length_append,List.length_singleton]
   omega
theorem rows_drop{w:World}{g0:Nat}{L:List (List Int)}(h:zAL w (some ⟨g0,0,none⟩) L)(k:Nat):zAL w (some ⟨g0,k,none⟩) (L.drop k):=by
 intro j hj
 have hjk:k+j<L.length:=by rw[List.length_drop]at hj;omega
 obtain⟨b,off,ra,n,cap,e,hlt,h0,hn,hm,hi⟩:=h (k+j) hjk
 cases e
 refine⟨g0,k,ra,n,cap,rfl,hlt,by simpa using h0,?_,hm,?_⟩<;>simp only[List.getElem_drop]<;>assumption
theorem zLZ{R:List (List Int)}{J:List Nat}{j:Nat}(h:(R.drop J.length).findIdx? (nz j)=none):zKS (R,J) j=(R,J):=by
 unfold zKS;simp only[h]
theorem pStep_some{R:List (List Int)}{J:List Nat}{j a:Nat}(h:(R.drop J.length).findIdx? (nz j)=some a):zKS (R,J) j=(zCQ (zFO R J.length (J.length+a)) J.length j,J++[j]):=by
 unfold zKS;simp only[h]
theorem reduce_c(w:World)(base:Nat)(v0:Value)(L:List (List Int))(W:Nat)(hO:OwnT w base w.heap.size v0 L)(hbase:base<=w.heap.size)(hw:∀r∈L,r.length=W)(hW:W<=1000)(hN:L.length<=6)(hN1:0<L.length)(n:Nat)(hn:n<=W)
 (hB:∀t,t<=n->∀r∈(pRed L t).1,r.length=W∧BndL 1073741824 r):
 Calls Tryz.prog 195 #[v0,.int .i64 n] w fun e w'=>∃v,e=.returned v∧w'.ownsRow w.heap.size 3 1 v (pRed L n).2.length ((pRed L n).2.map (fun j:Nat=>Value.int .i64 j))∧OwnT w' base w.heap.size v0 (pRed L n).1∧Below base w w':=by
 have HO:=hid hO
 have HB:=hid hB
 have HL:=hid (fun t=>zEP L t)
 have HBA:=hid hbase
 have HSU:=hid (fun t=>zHO L t)
 obtain⟨g0,cap,_,_,hv,_⟩:=hO.at 0 hN1
 subst hv
 obtain⟨N,hNe⟩:=exq (L.length)
 rw[<- hNe]at HO HL hN hN1⊢
 have HN:=hid hNe
 have HW:=hid hw
 clear hO hB hbase hNe hw
 go_enter Tryz.func195,Tryz.ntmps195
 go_wp2
 go_loopw [5,13] (fun v i wr=>∃j:Nat,j<=n∧i=.int .i64 j∧wr.ownsRow w.heap.size 3 1 v (pRed L j).2.length ((pRed L j).2.map (fun j:Nat=>Value.int .i64 j))∧OwnT wr base w.heap.size (.slice (some ⟨g0,0,none⟩) N cap) (pRed L j).1∧Below base w wr) (fun _ i _=>n-(intOf i).toNat)
 case atStart=>exact⟨0,Nat.zero_le _,rfl,World.ownsRow_nil _ _ _ _,HO.out,Below.refl _ _⟩
 case round=>
  obtain⟨j,hj,rfl,hown,hT,hbk⟩:=hrel
  obtain⟨wo,hwo⟩:=exq (wr)
  subst hwo
  by_cases hlt:j<n
  ·have hlt':(j:Int)<(n:Int):=by omega
   have hrl:=HL.out j
   have hKN:=pRed_K L j
   have hsu:=HSU.out j
   have hbnd:=HB.out j (by omega)
   have hbnd2:=HB.out (j+1) (by omega)
   rw[hsu]at hbnd2
   have HSJ:=hid hsu
   obtain⟨R,hR⟩:=exq ((pRed L j).1)
   obtain⟨J,hJ⟩:=exq ((pRed L j).2)
   have hRJ:pRed L j=(R,J):=by rw[hR,hJ]
   rw[hRJ]at hbnd2
   rw[hRJ]at HSJ
   rw[<- hR]at hrl hT hbnd
   rw[<- hJ]at hown hKN
   rw[<- HN.out]at hKN
   obtain⟨K,hK⟩:=exq (J.length)
   rw[<- hK]at hown hKN
   have HK:=hid hK
   have HRL:=hid hrl
   have HBD:=hid hbnd
   have HBD2:=hid hbnd2
   have HT:=hid hT
   have HBK:=hid hbk
   have hsz:=hbk.size
   obtain⟨vp,vcap,rfl⟩:=zAH hown
   have HOW:=hid hown
   have hrows:=hT.rowsAt hrl (fun r hr=>by rw[(hbnd r hr).1];unfold maxLen;omega)
   obtain⟨_,_,_,hNc,hcm,hfz0,_⟩:=hT.info hrl
   unfold maxLen at hcm
   have HFZ:=hid hfz0
   have hbx:Below wo.heap.size wo (wo.alloc (.cells #[.int .i64 j] 3)):=(Below.refl _ _).alloc (Nat.le_refl _) _
   have HPR:=hid (reduce1 (wo.alloc (.cells #[.int .i64 j] 3)) wo.heap.size j (by simp) (by rw[World.cell?_alloc_at _ _ _ _ rfl];rfl))
   have HRW:=hid (rows_drop (hrows.below hbx) K)
   have HBX:=hid hbx
   clear hsu hR hJ hRJ hK hrl hbnd hbnd2 hown hT hbk hrows hbx
   by_cases hKlt:K<N
   ·have hk1:(0:Int)<=(K:Int):=by omega
    have hk2:(K:Int)<=(N:Int):=by omega
    have hcK:¬(cap=K):=by omega
    have HI:=hid (indexRok (wo.alloc (.cells #[.int .i64 j] 3)) (some ⟨g0,K,none⟩) (N-K) (cap-K) (R.drop K) (by rw[List.length_drop,HRL.out]) (by unfold maxLen;omega) HRW.out 229 #[.pointer (some ⟨wo.heap.size,0,none⟩)] _ _ (enters_of Tryz.func229 (by kernel_rfl) rfl) HPR.out (fun x hx=>by have:=(HBD.out x (List.mem_of_mem_drop hx)).1;omega))
    rw[idxP_find]at HI
    cases hf:(R.drop K).findIdx? (nz j)with
    |none=>
     rw[hf]at HI
     simp only[]at HI
     have HE:=hid (show pRed L (j+1)=(R,J)by rw[HSJ.out];exact zLZ (by rw[<- HK.out];exact hf))
     clear hf HPR HRW hfz0
     go_wp2_with (go_at_call 228;refine HI.out.mono ?_;rintro e w1 ⟨rfl,hb1⟩)
     have hbw:=zAB HBX.out hb1
     refine⟨⟨j+1,by omega,by go_num,?_,?_,?_⟩,by simp[intOf];omega⟩
     ·rw[HE.out]
      simp only[]
      rw[<- HK.out]
      exact zBQ HOW.out hbw
     ·rw[HE.out]
      exact HT.out.keep fun k _ _ hk=>hbw.block k hk
     ·exact HBK.out.trans (hbw.mono HBK.out.size |>.mono (by have:=HBA.out;omega))
    |some a=>
     rw[hf]at HI
     simp only[Nat.zero_add]at HI
     have HE:=hid (show pRed L (j+1)=(zCQ (zFO R K (K+a)) K j,J++[j])by rw[HSJ.out,pStep_some (by rw[<- HK.out];exact hf),<- HK.out])
     obtain⟨ha1,ha2⟩:=zGA hf
     rw[List.length_drop,HRL.out]at ha1
     rw[List.getElem_drop]at ha2
     have HA2:=hid ha2
     clear hf ha2 HPR HRW hfz0
     go_wp2_with (go_at_call 228;refine HI.out.mono ?_;rintro e w1 ⟨rfl,hb1⟩;refine Stop.of ?_)
     refine Stop.go ?_
     have hbw:=zAB HBX.out hb1
     have hbw':=hbw
     have hT1:OwnT w1 base w.heap.size (.slice (some ⟨g0,0,none⟩) N cap) R:=HT.out.keep fun k _ _ hk=>hbw.block k hk
     have hia:K+a<R.length:=by rw[HRL.out];omega
     have hiK:K<R.length:=by rw[HRL.out];omega
     obtain⟨gK,cK,c1,_,_,_,hsK,_⟩:=hT1.row HRL.out K hiK
     obtain⟨gA,cA,c2,_,_,_,hsA,_⟩:=hT1.row HRL.out (K+a) hia
     obtain⟨hdK,hhK⟩:=exq (Value.slice (some ⟨gK,0,none⟩) R[K].length cK)
     obtain⟨hdA,hhA⟩:=exq (Value.slice (some ⟨gA,0,none⟩) R[K+a].length cA)
     rw[<- hhK]at c1
     rw[<- hhA]at c2
     obtain⟨_,_,hg0,_,_,hz0,_⟩:=hT1.info HRL.out
     have HS:=hid (fun(X:World) (h:X.heap=w1.heap)=>show X.cell? ⟨g0,K,none⟩=some hdK∧X.cell? ⟨g0,K+a,none⟩=some hdA from⟨by unfold World.cell? at c1⊢;rw[h];exact c1,by unfold World.cell? at c2⊢;rw[h];exact c2⟩)
     have HZ:=hid hz0
     have hzK:=hz0 K
     have hzA:=hz0 (K+a)
     have HT1:=hid hT1
     have HHK:=hid hhK
     have HHA:=hid hhA
     have HC1:=hid c1
     have HC2:=hid c2
     have ha3:(0:Int)<=(K:Int)+(a:Int):=by omega
     have ha4:(K:Int)+(a:Int)<(N:Int):=by omega
     have ha5:(K:Int)<(N:Int):=by omega
     have HW:=hid (show IntKind.i64.wrap ((K:Int)+a)=(K:Int)+a from IntWalk.i64_in _ (by omega))
     clear hT1 hhK hhA hsK hsA hz0
     go_wp2
     have hwe:=HW.out
     refine zAI (fun j X=>w2 11 15 j=true->X.cell? ⟨g0,K,none⟩=some hdK∧X.cell? ⟨g0,K+a,none⟩=some hdA) (by kernel_rfl) ?_
     refine AnyT.takeP (i:=0) (v:=.slice (some ⟨g0,0,none⟩) N cap) rfl rfl rfl (by kernel_rfl) (by kernel_rfl) (by kernel_rfl) (by first|exact(fun _ _ _ h=>h)|exact(fun _ _ _ h=>absurd h.1 (by simp))) (by rfl) (by intro w';go_simp) ?_;go_frame
     refine AnyT.takeP (i:=1) (v:=.int .i64 K) rfl rfl rfl (by kernel_rfl) (by kernel_rfl) (by kernel_rfl) (by first|exact(fun _ _ _ h=>h)|exact(fun _ _ _ h=>absurd h.1 (by simp))) (by rfl) (by intro w';go_simp) ?_;go_frame
     refine AnyT.takeP (i:=2) (v:=.slice (some ⟨g0,0,none⟩) N cap) rfl rfl rfl (by kernel_rfl) (by kernel_rfl) (by kernel_rfl) (by first|exact(fun _ _ _ h=>h)|exact(fun _ _ _ h=>absurd h.1 (by simp))) (by rfl) (by intro w';go_simp) ?_;go_frame
     refine AnyT.takeP (i:=3) (v:=.int .i64 K) rfl rfl rfl (by kernel_rfl) (by kernel_rfl) (by kernel_rfl) (by first|exact(fun _ _ _ h=>h)|exact(fun _ _ _ h=>absurd h.1 (by simp))) (by rfl) (by intro w';go_simp) ?_;go_frame
     refine AnyT.takeP (i:=4) (v:=.int .i64 a) rfl rfl rfl (by kernel_rfl) (by kernel_rfl) (by kernel_rfl) (by first|exact(fun _ _ _ h=>h)|exact(fun _ _ _ h=>absurd h.1 (by simp))) (by rfl) (by intro w';go_simp) ?_;go_frame
     refine AnyT.takeP (i:=5) (v:=.int .i64 ((K:Int)+(a:Int))) rfl rfl rfl (by kernel_rfl) (by kernel_rfl) (by kernel_rfl) (by first|exact(fun _ _ _ h=>h)|exact(fun _ _ _ h=>absurd h.1 (by simp))) (by rfl) (by intro w';go_simp) ?_;go_frame
     refine AnyT.takeP (i:=6) (v:=.slice (some ⟨g0,0,none⟩) N cap) rfl rfl rfl (by kernel_rfl) (by kernel_rfl) (by kernel_rfl) (by first|exact(fun _ _ _ h=>h)|exact(fun _ _ _ h=>absurd h.1 (by simp))) (by rfl) (by intro w';go_simp) ?_;go_frame
     refine AnyT.takeP (i:=7) (v:=.int .i64 K) rfl rfl rfl (by kernel_rfl) (by kernel_rfl) (by kernel_rfl) (by first|exact(fun _ _ _ h=>h)|exact(fun _ _ _ h=>absurd h.1 (by simp))) (by rfl) (by intro w';go_simp) ?_;go_frame
     refine AnyT.takeP (i:=8) (v:=.int .i64 a) rfl rfl rfl (by kernel_rfl) (by kernel_rfl) (by kernel_rfl) (by first|exact(fun _ _ _ h=>h)|exact(fun _ _ _ h=>absurd h.1 (by simp))) (by rfl) (by intro w';go_simp) ?_;go_frame
     refine AnyT.takeP (i:=9) (v:=.int .i64 ((K:Int)+(a:Int))) rfl rfl rfl (by kernel_rfl) (by kernel_rfl) (by kernel_rfl) (by first|exact(fun _ _ _ h=>h)|exact(fun _ _ _ h=>absurd h.1 (by simp))) (by rfl) (by intro w';go_simp) ?_;go_frame
     refine AnyT.takeP (i:=10) (v:=.pointer (some ⟨g0,K+a,none⟩)) rfl rfl rfl (by kernel_rfl) (by kernel_rfl) (by kernel_rfl) (by first|exact(fun _ _ _ h=>h)|exact(fun _ _ _ h=>absurd h.1 (by simp))) (by rfl) (by intro w';go_simp) ?_;go_frame
     refine AnyT.takeP (i:=12) (v:=.slice (some ⟨g0,0,none⟩) N cap) rfl rfl rfl (by kernel_rfl) (by kernel_rfl) (by kernel_rfl) (by first|exact(fun _ _ _ h=>h)|exact(fun _ _ _ h=>absurd h.1 (by simp))) (by rfl) (by intro w';go_simp) ?_;go_frame
     refine AnyT.takeP (i:=13) (v:=.int .i64 K) rfl rfl rfl (by kernel_rfl) (by kernel_rfl) (by kernel_rfl) (by first|exact(fun _ _ _ h=>h)|exact(fun _ _ _ h=>absurd h.1 (by simp))) (by rfl) (by intro w';go_simp) ?_;go_frame
     refine AnyT.takeP (i:=14) (v:=.pointer (some ⟨g0,K,none⟩)) rfl rfl rfl (by kernel_rfl) (by kernel_rfl) (by kernel_rfl) (by first|exact(fun _ _ _ h=>h)|exact(fun _ _ _ h=>absurd h.1 (by simp))) (by rfl) (by intro w';go_simp) ?_;go_frame
     refine AnyT.takeS (i:=15) (v:=hdK) rfl rfl (by kernel_rfl) (by kernel_rfl) (by kernel_rfl) (by first|exact(fun _ _ _ h=>h)|exact(fun _ _ _ h=>absurd h.1 (by simp))) (by kernel_rfl) (by rfl) (by rintro w' ⟨q4,q5⟩;go_simp) (HS.out _ rfl) ?_;go_frame
     refine AnyT.takeS (i:=11) (v:=hdA) rfl rfl (by kernel_rfl) (by kernel_rfl) (by kernel_rfl) (by first|exact(fun _ _ _ h=>h)|exact(fun _ _ _ h=>absurd h.1 (by simp))) (by kernel_rfl) (by rfl) (by rintro w' ⟨q4,q5⟩;go_simp) (HS.out _ rfl) ?_;go_frame
     refine AnyT.takeP (i:=16) (v:=.pointer (some ⟨g0,K,none⟩)) rfl rfl rfl (by kernel_rfl) (by kernel_rfl) (by kernel_rfl) (by first|exact(fun _ _ _ h=>h)|exact(fun _ _ _ h=>absurd h.1 (by simp))) (by rfl) (by intro w';go_simp) ?_;go_frame
     obtain rfl:=HHA.out
     obtain rfl:=HHK.out
     refine AnyT.nx (i:=17) rfl ?_
     go_wp2
     refine⟨fun h=>absurd h (by decide),?_⟩
     refine AnyT.takeP (i:=18) (v:=.pointer (some ⟨g0,K+a,none⟩)) rfl rfl rfl (by kernel_rfl) (by kernel_rfl) (by kernel_rfl) (by first|exact(fun _ _ _ h=>h)|exact(fun _ _ _ h=>absurd h.1 (by simp))) (by rfl) (by intro w';go_simp) ?_;go_frame
     have hzA2:(w1.setCell ⟨g0,K,none⟩ (.slice (some ⟨gA,0,none⟩) R[K+a].length cA)).frozen? ⟨g0,K+a,none⟩=false:=by
      rw[World.frozen?_setCell];exact HZ.out _
     obtain⟨vy,hy⟩:=cell?_setCell_some (w:=w1) (p:=⟨g0,K,none⟩) (x:=.slice (some ⟨gA,0,none⟩) R[K+a].length cA) (q:=⟨g0,K+a,none⟩) (v:=.slice (some ⟨gA,0,none⟩) R[K+a].length cA) c2
     refine AnyT.nx (i:=19) rfl ?_
     go_wp2
     refine⟨fun h=>absurd h (by decide),?_⟩
     refine AnyT.done (by kernel_rfl) ?_ _
     obtain⟨hsw,hswk⟩:=HT1.out.swap hiK hia (by rw[HRL.out]) HC1.out HC2.out
     obtain⟨w2,hw2⟩:=exq (((w1.setCell ⟨g0,K,none⟩ (.slice (some ⟨gA,0,none⟩) R[K+a].length cA)).setCell ⟨g0,K+a,none⟩ (.slice (some ⟨gK,0,none⟩) R[K].length cK)).drew)
     rw[<- hw2]
     have hR2:(R.set K R[K+a]).set (K+a) R[K]=zFO R K (K+a):=by
      unfold zFO;rw[List.getElem?_eq_getElem hia,List.getElem?_eq_getElem hiK];rfl
     rw[hR2]at hsw
     have hT2:OwnT w2 base w.heap.size (.slice (some ⟨g0,0,none⟩) N cap) (zFO R K (K+a)):=by rw[hw2];exact hsw
     have hk2:Keep (fun k=>k≠g0) w1 w2:=by
      rw[hw2]
      exact(((Keep.set w1 g0 K _).trans (Keep.set _ g0 (K+a) _)).drewN 1)
     have hR2K:(zFO R K (K+a))[K]?.getD []=R[K+a]:=by
      rw[zKJ hiK hia,if_pos rfl,List.getElem?_eq_getElem hia];rfl
     have hR2b:∀r∈zFO R K (K+a),r.length=W∧BndL 1073741824 r:=by
      intro r hr
      obtain⟨q,hq,rfl⟩:=List.mem_iff_getElem.1 hr
      rw[zFR]at hq
      have e:=zKJ hiK hia q
      rw[List.getElem?_eq_getElem (by rw[zFR];exact hq)]at e
      simp only[Option.getD_some]at e
      rw[e]
      have hlt:(if q=K then K+a else if q=K+a then K else q)<R.length:=by split<;>(try split)<;>omega
      rw[List.getElem?_eq_getElem hlt]
      exact HBD.out _ (List.getElem_mem hlt)
     have hR2l:(zFO R K (K+a)).length=N:=by rw[zFR,HRL.out]
     obtain⟨R2,hRe⟩:=exq (zFO R K (K+a))
     rw[<- hRe]at hT2 hR2K hR2b hR2l HE
     have HAA:=hid HA2.out
     have hbx2:w2.cell? ⟨wo.heap.size,0,none⟩=some (.int .i64 j):=by
      have hb0:w1.cell? ⟨wo.heap.size,0,none⟩=some (.int .i64 j):=by
       rw[hb1.cell (p:=⟨wo.heap.size,0,none⟩) (by simp),World.cell?_alloc_at _ _ _ _ rfl];rfl
      exact hk2.cell hb0 (by omega)
     have HBX2:=hid hbx2
     have HT2:=hid hT2
     have HK2:=hid hk2
     have HR2B:=hid hR2b
     have HR2L:=hid hR2l
     have hKR:K<R2.length:=by omega
     have hrow:R2[K]=R[K+a]:=by rw[<- hR2K,List.getElem?_eq_getElem hKR];rfl
     have HNZ:=hid (show vec R2[K] j≠0 by rw[hrow];simpa[nz]using HA2.out)
     obtain⟨gP,cP,c3,hP1,hP2,hP3,hsP,hput⟩:=hT2.row hR2l K hKR
     have hjl:j<R2[K].length:=by rw[(hR2b _ (List.getElem_mem hKR)).1];omega
     have hPl:R2[K].length=W:=(hR2b _ (List.getElem_mem hKR)).1
     have hPb:=(hR2b _ (List.getElem_mem hKR)).2
     obtain⟨P,hP⟩:=exq (R2[K])
     rw[<- hP]at c3 hsP hput HNZ hjl hPl hPb
     have c4:=hsP.cell hjl
     have hPj:=hPb.get hjl
     obtain⟨x,hx⟩:=exq (P[j]?.getD 0)
     rw[<- hx]at c4 hPj
     have HX:=hid (show vec P j=x from hx.symm)
     rw[hPl]at c3
     have HSP:=hid hsP
     have HPUT:=hid hput
     have HP:=hid hP
     have HPL:=hid hPl
     have HPB:=hid hPb
     have HRE:=hid hRe
     have hjW:(j:Int)<(W:Int):=by omega
     have hj0:(0:Int)<=(j:Int):=by omega
     clear hw2 hsw hswk hR2 hT2 hk2 hR2K hR2b hR2l hRe hrow hsP hput hjl hPl hPb hx hP hbw c1 c2 hy hzK hzA hzA2 HZ HS HW HC1 HC2 HA2 HT1
     go_wp2
     go_quiet (fail)
     go_upto_if 50 with (fail)
     have HT3:=hid (show OwnT (w2.drewN nq) base w.heap.size (.slice (some ⟨g0,0,none⟩) N cap) R2 from HT2.out)
     have HK3:=hid (show Keep (fun k=>k≠g0) w1 (w2.drewN nq)from HK2.out.drewN nq)
     have HSP3:=hid (show zBS (w2.drewN nq) gP P from HSP.out)
     have HC3:=hid (show(w2.drewN nq).cell? ⟨g0,K,none⟩=some (.slice (some ⟨gP,0,none⟩) W cP)from c3)
     have HBX3:=hid (show(w2.drewN nq).cell? ⟨wo.heap.size,0,none⟩=some (.int .i64 j)from hbx2)
     have HPUT3:=hid (fun(w':World) (r':List Int) (h1:r'.length=P.length) (h2:zBS w' gP r') (h3:∀k,base<=k->k<w.heap.size->k<(w2.drewN nq).heap.size->k≠gP->w'.heap[k]? =(w2.drewN nq).heap[k]?)=>HPUT.out w' r' h1 h2 h3)
     clear HT2 HK2 HSP HBX2 HPUT c3 c4 hbx2
     generalize w2.drewN nq=w3 at HT3 HK3 HSP3 HC3 HBX3 HPUT3⊢
     go_cut [9,13]from 13 to 103 (fun s9 s13 wx=>s13=.int .i64 j∧OwnT wx base w.heap.size (.slice (some ⟨g0,0,none⟩) N cap) (R2.set K (posF P j))∧Keep (fun k=>k≠gP) w3 wx)
     case first=>
      by_cases hxn:x<0
      ·have c3:=HC3.out
       rw[show decide (x<0)=true from decide_eq_true hxn]
       have HXN:=hid hxn
       clear hxn
       go_wp2
       go_loopw [56] (fun i wz=>∃t:Nat,t<=W∧i=.int .i64 t∧zBS wz gP (zIW (fun x=> -x) P t)∧Keep (fun k=>k≠gP) w3 wz) (fun i _=>W-(intOf i).toNat)
       case atStart=>exact⟨0,Nat.zero_le _,rfl,by rw[zMC];exact HSP3.out,Keep.refl _ _⟩
       case round=>
        obtain⟨t,ht,rfl,hr,hkp⟩:=hrel
        by_cases hltt:t<W
        ·have htl:t<P.length:=by rw[HPL.out];exact hltt
         have d1:=hkp.cell HC3.out hP3
         have d2:=hr.cell (j:=t) (by rw[zHX];exact htl)
         rw[halfF_at _ htl]at d2
         have hz:=hr.frozen t
         have hbd:=HPB.out.get htl
         have hst:=halfF_set (fun x=> -x) htl
         have HSET:=hid (fun(X:World) (hX:X.heap[gP]? =wr.heap[gP]?) v=>(hr.keep hX).set t (by rw[zHX];exact htl) v)
         have hgs:=hr.lt
         obtain⟨y,hy⟩:=exq (P[t]?.getD 0)
         rw[<- hy]at d2 hbd hst
         have HST:=hid hst
         have HKP:=hid hkp
         have hwn:IntKind.i64.wrap (-y)= -y:=IntWalk.i64_in _ (by omega)
         have ht0:(0:Int)<=(t:Int):=by omega
         have ht1:(t:Int)<(W:Int):=by omega
         have hk0:(K:Int)<(N:Int):=by omega
         clear hr hkp hst hy htl c3
         go_wp2
         go_still_tail 14,(by kernel_rfl)
         change wpList _ _ _ _ _ wr.drew
         go_wp2
         refine⟨⟨t+1,by omega,by go_num,?_,(HKP.out.drewN 1).trans (Keep.set wr.drew gP t _)⟩,by simp[intOf];omega⟩
         rw[<- HST.out]
         exact HSET.out wr.drew rfl _
        ·obtain rfl:t=W:=by omega
         go_wp2
         go_meet
         case rel=>
          refine⟨rfl,?_,hkp⟩
          rw[<- HPL.out,halfF_all]at hr
          have e:posF P j=P.map (fun x=> -x):=by unfold posF negF;rw[HX.out,if_pos HXN.out]
          rw[e]
          exact HPUT3.out _ _ (by simp) hr (fun k _ _ hk hne=>hkp.block k hk hne)
      ·rw[show decide (x<0)=false from decide_eq_false hxn]
       have HXN:=hid hxn
       clear hxn
       go_wp2
       go_meet
       case rel=>
        refine⟨rfl,?_,Keep.refl _ _⟩
        have e:posF P j=P:=by unfold posF;rw[HX.out,if_neg (by have:=HXN.out;omega)]
        rw[e]
        exact HPUT3.out _ _ rfl HSP3.out (fun k _ _ hk hne=>rfl)
     case rest=>
      obtain⟨rfl,hT4,hk4⟩:=hcut
      obtain⟨Pp,hPp⟩:=exq (posF P j)
      rw[<- hPp]at hT4
      have hPpl:Pp.length=W:=by rw[hPp,zMZ,HPL.out]
      have hPpb:BndL 1073741824 Pp:=by
       intro y hy
       obtain⟨i,hi,rfl⟩:=List.mem_iff_getElem.1 hy
       obtain⟨z,hz,e⟩:=zJV P j
       have h1:=e i
       rw[<- hPp,zCS hi]at h1
       have h2:=HPB.out.get (k:=i) (by rw[HPL.out,<- hPpl];exact hi)
       have h3:vec P i=P[i]?.getD 0:=rfl
       rw[h1,h3]
       rcases hz with rfl|rfl<;>omega
      have hPpj:vec Pp j≠0:=by
       have:=zJU (l:=P) (j:=j) HNZ.out
       rw[<- hPp]at this;omega
      obtain⟨L3,hL3⟩:=exq (R2.set K Pp)
      have hL3l:L3.length=N:=by rw[hL3,List.length_set,HR2L.out]
      have hL3K:L3[K]? =some Pp:=by subst hL3;exact List.getElem?_set_self hKR
      have hL3o:∀q (hq:q<L3.length),q≠K->(L3[q]).length=W∧BndL 1073741824 (L3[q]):=by
       intro q hq hne
       subst hL3
       rw[List.getElem_set_ne (Ne.symm hne)]
       exact HR2B.out _ (List.getElem_mem _)
      have hfin:(zCQ R2 K j)=zBH L3 Pp K j N:=by
       rw[<- hL3l,clearTo_all,hL3]
       unfold zCQ
       have:R2[K]?.getD []=P:=by rw[HP.out,List.getElem?_eq_getElem hKR];rfl
       rw[this,<- hPp]
      have HFIN:=hid hfin
      have HPPL:=hid hPpl
      have HPPB:=hid hPpb
      have HPPJ:=hid hPpj
      rw[<- hL3]at hT4
      have hcl0:zBH L3 Pp K j 0=L3:=clearTo_zero _ _ _ _
      have HT4:=hid (show OwnT wc base w.heap.size (.slice (some ⟨g0,0,none⟩) N cap) (zBH L3 Pp K j 0)by rw[hcl0];exact hT4)
      have HL3L:=hid hL3l
      have HL3K:=hid hL3K
      have HL3O:=hid hL3o
      have hbx4:wc.cell? ⟨wo.heap.size,0,none⟩=some (.int .i64 j):=hk4.cell HBX3.out (by omega)
      have HBX4:=hid hbx4
      have HK4:=hid (show Keep (Out base w.heap.size) w1 wc from(HK3.out.mono (fun k hk=>by rcases hk with h|h<;>omega)).trans (hk4.mono (fun k hk=>by rcases hk with h|h<;>omega)))
      clear hPp hPpl hPpb hPpj hL3l hL3K hL3o hfin hL3 hcl0 hT4 hbx4 hk4 HT3 HK3 HSP3 HC3 HBX3 HPUT3
      go_wp2
      go_loopw [76] (fun i wr=>∃t:Nat,t<=N∧i=.int .i64 t∧OwnT wr base w.heap.size (.slice (some ⟨g0,0,none⟩) N cap) (zBH L3 Pp K j t)∧Keep (Out base w.heap.size) wc wr) (fun i _=>N-(intOf i).toNat)
      case atStart=>exact⟨0,Nat.zero_le _,rfl,HT4.out,Keep.refl _ _⟩
      case round=>
       obtain⟨t,ht,rfl,hTt,hkt⟩:=hrel
       by_cases hltt:t<N
       ·have htL:t<L3.length:=by rw[HL3L.out];exact hltt
        have hMl:(zBH L3 Pp K j t).length=N:=by rw[zLI,HL3L.out]
        obtain⟨gi,ci,d1,i1,i2,i3,hsp,hput⟩:=hTt.row hMl t (by rw[hMl];exact hltt)
        have hMt:(zBH L3 Pp K j t)[t]'(by rw[hMl];exact hltt)=L3[t]:=by rw[zEK htL,if_neg (by omega)]
        rw[hMt]at d1 hsp hput
        have hset:=clearTo_set (p:=Pp) (k:=K) (j:=j) htL
        have hself:(zBH L3 Pp K j t).set t L3[t]=zBH L3 Pp K j t:=by
         rw[<- hMt];exact List.set_getElem_self _
        have hbx5:wr.cell? ⟨wo.heap.size,0,none⟩=some (.int .i64 j):=hkt.cell HBX4.out (.inr (by omega))
        have HTT:=hid hTt
        have HKT:=hid hkt
        have ht0:(0:Int)<=(t:Int):=by omega
        have ht1:(t:Int)<(N:Int):=by omega
        by_cases htK:t=K
        ·have hb:((t:Int) !=(K:Int))=false:=by simp[htK]
         have hsame:zBH L3 Pp K j (t+1)=zBH L3 Pp K j t:=by
          rw[<- hset];unfold zES;rw[if_neg (by simp[htK])];exact hself
         have HSM:=hid hsame
         have hlen:L3[t].length=W:=by
          have h1:=HL3K.out
          rw[<- htK,List.getElem?_eq_getElem htL]at h1
          rw[Option.some.inj h1,HPPL.out]
         rw[hlen]at d1
         clear htK hset hself hsame hTt hkt hput hsp hMt hlen htL hMl
         go_wp2
         refine⟨⟨t+1,by omega,by go_num,by rw[HSM.out];exact HTT.out,HKT.out⟩,by simp[intOf];omega⟩
        ·have hb:((t:Int) !=(K:Int))=true:=by simp;omega
         obtain⟨hlW,hlB⟩:=HL3O.out t htL htK
         obtain⟨X,hX⟩:=exq (L3[t])
         rw[<- hX]at d1 hsp hput hset hself hlW hlB
         have d2:=hsp.cell (j:=j) (by omega)
         obtain⟨y,hy⟩:=exq (X[j]?.getD 0)
         rw[<- hy]at d2
         have HY:=hid (show vec X j=y from hy.symm)
         have HTK:=hid htK
         have hMK:(zBH L3 Pp K j t)[K]'(by rw[hMl];exact hKlt)=Pp:=by
          have h1:=HL3K.out
          rw[List.getElem?_eq_getElem (by rw[HL3L.out];exact hKlt)]at h1
          rw[zEK (by rw[HL3L.out];exact hKlt)]
          have h2:L3[K]'(by rw[HL3L.out];exact hKlt)=Pp:=Option.some.inj h1
          rw[h2]
          split
          ·unfold zES;rw[if_neg (by simp)]
          ·rfl
         obtain⟨gk,ck,e1,k1,k2,k3,hspk,hputk⟩:=hTt.row hMl K (by rw[hMl];exact hKlt)
         rw[hMK]at e1 hspk
         have hne:gi≠gk:=hTt.ne hMl (i:=t) (j:=K) (by rw[hMl];exact hltt) (by rw[hMl];exact hKlt) htK d1 e1
         rw[hlW]at d1
         rw[HPPL.out]at e1
         by_cases hy0:y=0
         ·have hyb:(y !=0)=false:=by simp[hy0]
          have hsame:zBH L3 Pp K j (t+1)=zBH L3 Pp K j t:=by
           rw[<- hset];unfold zES;rw[if_neg (by rw[HY.out];simp[hy0])];exact hself
          have HSM:=hid hsame
          clear htK hset hself hsame hTt hkt hput hsp hMt hX hlW hlB hy hMK hspk hne hputk hy0 htL hMl
          go_wp2
          refine⟨⟨t+1,by omega,by go_num,by rw[HSM.out];exact HTT.out,HKT.out⟩,by simp[intOf];omega⟩
         ·have hyb:(y !=0)=true:=by simpa using hy0
          have hst:zBH L3 Pp K j (t+1)=(zBH L3 Pp K j t).set t (zFM X Pp j):=by
           rw[<- hset];unfold zES;rw[if_pos ⟨htK,by rw[HY.out];exact hy0⟩]
          have HST:=hid hst
          have HCL:=hid (fun(Wd:World) (hW:Wd.heap=wr.heap)=>cleared_c Wd gi W ci gk ck X Pp hlW HPPL.out (by unfold maxLen;omega) (hsp.keep (by rw[hW])) (hspk.keep (by rw[hW])) hne hlB HPPB.out j (by omega) HPPJ.out)
          have HPU:=hid hput
          have HGI:=hid (And.intro i1 i2)
          have HLW:=hid hlW
          clear htK hset hself hst hTt hkt hput hsp hMt hX hlW hlB hy hMK hspk hne hputk hy0 htL hMl
          go_wp2
          go_still_tail 6,(by kernel_rfl)
          change wpList _ _ _ _ _ wr.drew
          generalize hwz:wr.drew=wz
          have HWZ:=hid hwz
          have HCZ:=hid (HCL.out wz (by rw[<- hwz];rfl))
          clear hwz
          go_wp2_with fail
          refine(HCZ.out).mono ?_
          rintro e w7 ⟨rfl,hs7,hk7⟩
          go_wp2
          have hk7':Keep (fun k=>k≠gi) wr w7:=(show Keep (fun k=>k≠gi) wr wz by rw[<- HWZ.out];exact(Keep.refl _ _).drewN 1).trans hk7
          refine⟨⟨t+1,by omega,by go_num,?_,HKT.out.trans (hk7'.mono fun k hk=>by have:=HGI.out;rcases hk with h|h<;>omega)⟩,by simp[intOf];omega⟩
          rw[HST.out]
          exact HPU.out _ _ (by rw[zMK (by rw[HLW.out,HPPL.out])]) hs7 (fun k _ _ hk hne=>hk7'.block k hk hne)
       ·obtain rfl:t=N:=by omega
        rw[<- HFIN.out]at hTt
        have HTT:=hid hTt
        have HKT:=hid (HK4.out.trans hkt)
        have hbx6:wr.cell? ⟨wo.heap.size,0,none⟩=some (.int .i64 j):=hkt.cell HBX4.out (.inr (by omega))
        have hsz6:=hkt.size
        have hkeep:Keep (fun k=>w.heap.size<=k) wo wr:=(Keep.of_below hbw').trans (HKT.out.mono fun k hk=>.inr hk)
        have HO6:=hid (own_keep HOW.out hkeep (fun k hk=>hk))
        have M1:=hid (show K+1<=maxLen by unfold maxLen;omega)
        have M2:=hid (show(K+1)*8<=140737488355328 by omega)
        have M3:=hid (Nat.le_trans (show w.heap.size<=wr.heap.size by have:=hkeep.size;omega) (zCV wr (.cells #[.int .i64 (j:Int)] 3)))
        have HKW:=hid (show Keep (Out base w.heap.size) wo wr from(Keep.of_below hbw').trans HKT.out)
        clear hTt hkt hkeep
        go_wp2_with (at_builtin;refine zBN _ rfl (.tmp 99) (.tmp 101) 24 rfl w.heap.size 3 (.int .i64 0) 1 8 Tryz.underlying24 zGP rfl Nat.one_pos (.slice vp K vcap) K _ rfl (HO6.out.alloc _) (some ⟨wr.heap.size,0,none⟩) 1 1 [.int .i64 (j:Int)] rfl rfl zDM (zDG wr _ _) (zKX _) M1.out M2.out M3.out ?_;refine Stop.of ?_)
        refine Stop.go ?_
        intro a3 c3 w8 own8 g8
        have hsw0:w.heap.size<=wr.heap.size:=by have:=HKW.out.size;omega
        have hkg:∀k,k<w.heap.size->w8.heap[k]? =wr.heap[k]? :=fun k hk=>by
         have h1:=g8.block k (by simp;omega) (fun e=>by have:=(HO6.out.lt k e.symm).1;omega)
         rw[h1]
         exact(Below.heap_alloc _ _ _ (by omega))
        have hsw:w.heap.size<=wr.heap.size:=by have:=HKW.out.size;omega
        have hb8:Below w.heap.size wr w8:=⟨g8.os,g8.tape,g8.output,by have:=g8.size;simp at this;omega,fun k hk=>hkg k hk⟩
        go_wp2
        refine⟨⟨j+1,by omega,by go_num,?_,?_,?_⟩,by simp[intOf];omega⟩
        ·rw[HE.out]
         simp only[List.length_append,List.length_singleton,List.map_append,List.map_cons,List.map_nil]
         rw[<- HK.out]
         exact own8
        ·rw[HE.out]
         exact HTT.out.keep fun k _ hk _=>hkg k hk
        ·exact HBK.out.trans ⟨hb8.os.trans HKW.out.os,hb8.tape.trans HKW.out.tape,hb8.output.trans HKW.out.output,Nat.le_trans HKW.out.size hb8.size,fun k hk=>(hkg k (by have:=HBA.out;omega)).trans (HKW.out.block k (by have:=HBA.out;omega) (.inl hk))⟩
   ·have hKe:K=N:=by omega
    have hd:R.drop K=[]:=List.drop_eq_nil_of_le (by rw[HRL.out];omega)
    have HE:=hid (show pRed L (j+1)=(R,J)by rw[HSJ.out];exact zLZ (by rw[<- HK.out,hd];rfl))
    have HI:=hid (fun(a:Option Addr) (c:Nat)=>indexRok (wo.alloc (.cells #[.int .i64 j] 3)) a 0 c [] rfl (by decide) (fun i hi=>by simp at hi) 229 #[.pointer (some ⟨wo.heap.size,0,none⟩)] _ _ (enters_of Tryz.func229 (by kernel_rfl) rfl) HPR.out (fun x hx=>by simp at hx))
    simp only[idxP]at HI
    subst hKe
    have hk1:(0:Int)<=(K:Int):=by omega
    clear hd HPR HRW hfz0
    rcases Decidable.em (cap=K)with rfl|hcK
    all_goals
     go_wp2_with (go_at_call 228;refine(HI.out _ _).mono ?_;rintro e w1 ⟨rfl,hb1⟩)
     have hbw:=zAB HBX.out hb1
     refine⟨⟨j+1,by omega,by go_num,?_,?_,?_⟩,by simp[intOf];omega⟩
     ·rw[HE.out]
      simp only[]
      rw[<- HK.out]
      exact zBQ HOW.out hbw
     ·rw[HE.out]
      exact HT.out.keep fun k _ _ hk=>hbw.block k hk
     ·exact HBK.out.trans (hbw.mono HBK.out.size |>.mono (by have:=HBA.out;omega))
  ·obtain rfl:j=n:=by omega
   go_wp2
   go_ret
   exact⟨_,rfl,hown,hT,hbk⟩
end
section
open Go.RowKit
theorem gcd_tmod(p q:Int):Int.gcd q (p.tmod q)=Int.gcd p q:=by
 unfold Int.gcd
 rw[Int.natAbs_tmod]
 rcases Nat.eq_zero_or_pos q.natAbs with h|h
 ·rw[h];simp
 ·exact gcd_mod _ _ h
end
section
open Go.RowKit
def allI(n:Nat):List Int:=(List.range n).map (fun j:Nat=>(j:Int))
theorem allI_len(n:Nat):(allI n).length=n:=by simp[allI]
theorem allI_succ(n:Nat):allI (n+1)=allI n++[(n:Int)]:=by unfold allI;rw[List.range_succ,List.map_append];rfl
theorem all_c(w:World)(n:Nat)(hn:n<=1000):
 Calls Tryz.prog 194 #[.int .i64 n] w fun e w'=>∃v,e=.returned v∧w'.ownsRow w.heap.size 3 1 v n ((allI n).map (Value.int .i64))∧Below w.heap.size w w':=by
 go_enter Tryz.func194,Tryz.ntmps194
 go_wp2
 go_loopw [3,6] (fun v i wr=>∃k:Nat,k<=n∧i=.int .i64 k∧wr.ownsRow w.heap.size 3 1 v k ((allI k).map (Value.int .i64))∧Below w.heap.size w wr) (fun _ i _=>n-(intOf i).toNat)
 case atStart=>exact⟨0,Nat.zero_le _,rfl,World.ownsRow_nil _ _ _ _,Below.refl _ _⟩
 case round=>
  obtain⟨k,hk,rfl,hown,hbk⟩:=hrel
  by_cases hlt:k<n
  ·obtain⟨va,vc,rfl⟩:=zAH hown
   have HO:=hid hown
   have M1:=hid (show k+1<=maxLen by unfold maxLen;omega)
   have M2:=hid (show(k+1)*8<=140737488355328 by omega)
   have M3:=hid (Nat.le_trans hbk.size (zCV wr (.cells #[.int .i64 (k:Int)] 3)))
   clear hown
   go_wp2_with (at_builtin;refine zBN _ rfl (.tmp 9) (.tmp 11) 24 rfl w.heap.size 3 (.int .i64 0) 1 8 Tryz.underlying24 zGP rfl Nat.one_pos (.slice va k vc) k _ rfl (HO.out.alloc _) (some ⟨wr.heap.size,0,none⟩) 1 1 [.int .i64 (k:Int)] rfl rfl zDM (zDG wr _ _) (zKX _) M1.out M2.out M3.out ?_;refine Stop.of ?_)
   refine Stop.go ?_
   intro a3 c3 w3 own3 g3
   have hB3:Below w.heap.size w w3:=(hbk.alloc hbk.size _).grown g3 M3.out (fun k hk=>(HO.out.lt k hk).1)
   go_wp2
   refine⟨⟨k+1,by omega,by go_num,?_,hB3⟩,by simp[intOf];omega⟩
   rw[allI_succ]
   simpa using own3
  ·obtain rfl:k=n:=by omega
   go_wp2
   go_ret
   exact⟨_,rfl,hown,hbk⟩
def MoreP(P:Program)(g:Nat)(lb:Array Value)(w:World)(N:Nat)(mo:Nat->List Int):Prop:=
 ∀(i:Nat) (W:World),i<N->Below w.heap.size w W->Calls P g (#[.int .i64 i]++lb) W fun e W'=>∃a c,e=.returned (.slice a (mo i).length c)∧zAE W' a (mo i)∧Below W.heap.size W W'
def zEL(M:List (List Int))(S:List Int)(mo:Nat->List Int):List (List Int):=M.mapIdx (fun i r=>S.map (fun j=>vec r j.toNat)++mo i)
theorem zGX(M:List (List Int))(S:List Int)(mo:Nat->List Int):(zEL M S mo).length=M.length:=by simp[zEL]
theorem zJQ{M:List (List Int)}{S:List Int}{mo:Nat->List Int}{k:Nat}(hk:k<M.length):(zEL M S mo).take (k+1)=(zEL M S mo).take k++[S.map (fun j=>vec M[k] j.toNat)++mo k]:=by
 rw[List.take_succ_eq_append_getElem (by rw[zGX];exact hk)]
 simp[zEL]
theorem zNI(l:List Int):∀u∈l.map (Value.int .i64),u.oneCell'=true:=by intro u hu;obtain⟨x,_,rfl⟩:=List.mem_map.1 hu;rfl
theorem chosen_c(w:World)(a:Option Addr)(n cap:Nat)(M:List (List Int))(hn:M.length=n)(hn6:n<=1000)(H:zAL w a M)(a2:Option Addr)(k2 cap2:Nat)(S:List Int)(hk2:S.length=k2)(hk21:k2<=1000)(H2:zAE w a2 S)
 (hS:∀r∈M,∀j∈S,0<=j∧j<r.length)(g:Nat)(lb:Array Value)(eg:∀args w,(callFunc g args).run Tryz.prog w=.ok (.enter g args) w)(mo:Nat->List Int)(hmo:MoreP Tryz.prog g lb w n mo)(hml:∀i,i<n->(mo i).length<=1000∧1<=k2+(mo i).length):
 Calls Tryz.prog 220 #[.slice a n cap,.slice a2 k2 cap2,.func (.func g) #[] lb] w fun e w'=>∃v,e=.returned v∧OwnM w' w.heap.size v (zEL M S mo)∧Below w.heap.size w w':=by
 have HN:=hid hn
 have HH:=hid H
 have HK2:=hid hk2
 have HH2:=hid H2
 have HS:=hid hS
 have HMO:=hid hmo
 have HML:=hid hml
 have HCT:=hid (fun(k:Nat) (hk:k<M.length)=>zJQ (M:=M) (S:=S) (mo:=mo) hk)
 have HCL:=hid (zGX M S mo)
 obtain⟨C,hC⟩:=exq (zEL M S mo)
 rw[<- hC]at HCT HCL⊢
 clear hn H hk2 H2 hS hmo hml hC
 go_enter Tryz.func220,Tryz.ntmps220
 go_wp2
 go_loopw [7,15] (fun v i wr=>∃k:Nat,k<=n∧i=.int .i64 k∧OwnM wr w.heap.size v (C.take k)∧Below w.heap.size w wr) (fun _ i _=>n-(intOf i).toNat)
 case atStart=>exact⟨0,Nat.zero_le _,rfl,OwnM.nil _ _,Below.refl _ _⟩
 case round=>
  obtain⟨k,hk,rfl,ho,hbk⟩:=hrel
  obtain⟨wo,hwo⟩:=exq (wr)
  subst hwo
  by_cases hlt:k<n
  ·have hkM:k<M.length:=by rw[HN.out];exact hlt
   obtain⟨b,off,ra,rn,rc,rfl,hbs,hq0,hrn,hrm,hri⟩:=(HH.out.below hbk) k hkM
   have htk:=HCT.out k hkM
   have hsr:=HS.out M[k] (List.getElem_mem hkM)
   obtain⟨r,hr⟩:=exq (M[k])
   rw[<- hr]at htk hsr hrn hri
   have hlen:(C.take k).length=k:=by rw[List.length_take,HCL.out];omega
   have HL:=hid hlen
   have HTK:=hid htk
   have HSR:=hid hsr
   have HRN:=hid hrn
   have HRI:=hid hri
   have HO:=hid ho
   have HBK:=hid hbk
   obtain⟨va,vc,hv⟩:∃va vc,u7=.slice va k vc:=by
    obtain⟨_,_,ho1,_⟩:=ho
    obtain⟨a',c',e⟩:=zAH ho1
    exact⟨a',c',by rw[e,hlen]⟩
   subst hv
   clear hr htk hsr hrn hri hkM ho hlen
   go_wp2
   go_loopw [10,22] (fun v i wr=>∃t:Nat,t<=k2∧i=.int .i64 t∧wr.ownsRow wo.heap.size 3 1 v t (((S.take t).map (fun j=>vec r j.toNat)).map (Value.int .i64))∧Below wo.heap.size wo wr) (fun _ i _=>k2-(intOf i).toNat)
   case atStart=>exact⟨0,Nat.zero_le _,rfl,World.ownsRow_nil _ _ _ _,Below.refl _ _⟩
   case round=>
    obtain⟨t,ht,rfl,hown,hbt⟩:=hrel
    by_cases hlt2:t<k2
    ·have htS:t<S.length:=by rw[HK2.out];exact hlt2
     obtain⟨b2,off2,rfl,hbs2,hc2⟩:=(HH2.out.below (zAB HBK.out hbt)) t htS
     have hpp:=HSR.out S[t] (List.getElem_mem htS)
     have hg2:S[t]?.getD 0=S[t]:=by rw[List.getElem?_eq_getElem htS];rfl
     rw[hg2]at hc2
     have htk2:(S.take (t+1)).map (fun j=>vec r j.toNat)=(S.take t).map (fun j=>vec r j.toNat)++[vec r (S[t]).toNat]:=by
      rw[List.take_succ_eq_append_getElem htS,List.map_append];rfl
     obtain⟨q,hq⟩:∃q:Nat,S[t]=q:=⟨(S[t]).toNat,by omega⟩
     rw[hq]at hc2 hpp htk2
     rw[show((q:Int)).toNat=q by omega]at htk2
     have hqr:q<r.length:=by omega
     obtain⟨b3,off3,rfl,hbs3,hc3⟩:=(HRI.out.below hbt) q hqr
     have hqn:(q:Int)<(rn:Int):=by have:=HRN.out;omega
     have hq0':(0:Int)<=(q:Int):=by omega
     obtain⟨x,hx⟩:=exq (r[q]?.getD 0)
     have hxv:vec r q=x:=hx.symm
     rw[<- hx]at hc3
     rw[hxv]at htk2
     obtain⟨la,lc,rfl⟩:=zAH hown
     have HTK2:=hid htk2
     have HOW:=hid hown
     have M1:=hid (show t+1<=maxLen by unfold maxLen;omega)
     have M2:=hid (show(t+1)*8<=140737488355328 by omega)
     have M3:=hid (Nat.le_trans hbt.size (zCV wr (.cells #[.int .i64 x] 3)))
     clear hpp hg2 htk2 hq hx hxv hown htS hqr
     go_wp2_with (at_builtin;refine zBN _ rfl (.tmp 26) (.tmp 31) 24 rfl wo.heap.size 3 (.int .i64 0) 1 8 Tryz.underlying24 zGP rfl Nat.one_pos (.slice la t lc) t _ rfl (HOW.out.alloc _) (some ⟨wr.heap.size,0,none⟩) 1 1 [.int .i64 x] rfl rfl zDM (zDG wr _ _) (zKX _) M1.out M2.out M3.out ?_;refine Stop.of ?_)
     refine Stop.go ?_
     intro a3 c3 w3 own3 g3
     have hB3:Below wo.heap.size wo w3:=(hbt.alloc hbt.size _).grown g3 M3.out (fun k hk=>(HOW.out.lt k hk).1)
     go_wp2
     refine⟨⟨t+1,by omega,by go_num,?_,hB3⟩,by simp[intOf];omega⟩
     rw[HTK2.out]
     simpa using own3
    ·obtain rfl:t=k2:=by omega
     rw[List.take_of_length_le (by rw[HK2.out];exact Nat.le_refl _)]at hown
     obtain⟨la,lc,rfl⟩:=zAH hown
     have HMK:=hid (HMO.out k wr hlt (zAB HBK.out hbt))
     have HOW:=hid hown
     have hml:=HML.out k hlt
     obtain⟨m,hm⟩:=exq (mo k)
     rw[<- hm]at hml HMK HTK
     obtain⟨ml,hmle⟩:=exq (m.length)
     rw[<- hmle]at hml HMK
     have HME:=hid hmle
     obtain⟨hml1,hml2⟩:=hml
     clear hown hm hmle
     go_wp2_with (refine HMK.out.mono ?_;rintro e w2 ⟨ma,mc,rfl,hmi,hb2⟩;refine Stop.of ?_)
     refine Stop.go ?_
     have HO2:=hid (zBQ HOW.out hb2)
     have HMI:=hid hmi
     have HB2:=hid (zAB hbt hb2)
     have N1:=hid (show t+ml<=maxLen by unfold maxLen;omega)
     have N2:=hid (show(t+ml)*8<=140737488355328 by omega)
     have N3:=hid (show wo.heap.size<=w2.heap.size from HB2.out.size)
     have N4:=hid (show(m.map (Value.int .i64)).length=ml*1 by rw[List.length_map,HME.out];omega)
     have N5:=hid (show ma=none->ml=0 from fun h=>by rw[HME.out];exact ints_none hmi h)
     have N6:=hid (ints_news hmi)
     clear hmi hb2 hbt
     go_wp2_with (at_builtin;refine zBN _ rfl (.tmp 35) (.tmp 38) 24 rfl wo.heap.size 3 (.int .i64 0) 1 8 Tryz.underlying24 zGP rfl Nat.one_pos (.slice la t lc) t _ rfl HO2.out ma ml mc (m.map (Value.int .i64)) rfl N4.out N5.out N6.out (zNI _) N1.out N2.out N3.out ?_;refine Stop.of ?_)
     refine Stop.go ?_
     intro a3 c3 w3 own3 g3
     have hB3:Below wo.heap.size wo w3:=HB2.out.grown g3 N3.out (fun k hk=>(HO2.out.lt k hk).1)
     rw[<- List.map_map,<- List.map_append]at own3
     obtain⟨X,hX⟩:=exq (S.map (fun j=>vec r j.toNat)++m)
     rw[<- hX]at own3 HTK
     have hXl:X.length=t+ml:=by rw[hX,List.length_append,List.length_map,HK2.out,HME.out]
     obtain⟨gn,cc,e3,hgn,hsr⟩:=zKL own3 hXl (by omega)
     cases e3
     have HXL:=hid hXl
     obtain⟨g',vs,ho,hin,he⟩:=HO.out
     rw[HL.out]at ho
     have hb2a:Below wo.heap.size wo (w3.alloc (.cells #[.slice (some ⟨gn,0,none⟩) (t+ml) c3] 24)):=hB3.alloc hB3.size _
     have M1:=hid (show k+1<=maxLen by unfold maxLen;omega)
     have M2:=hid (show(k+1)*24<=140737488355328 by omega)
     have M3:=hid (Nat.le_trans HBK.out.size hb2a.size)
     have HO2':=hid (zBQ ho hb2a)
     have HE:=hid he
     have HIN:=hid hin
     have HSR2:=hid hsr
     have HB2':=hid hb2a
     have HOO:=hid ho
     have HC3:=hid (own_cap own3)
     clear he hin hsr hb2a ho own3 hX hXl hml1 hml2 hB3 g3
     go_wp2_with (at_builtin;refine zBN _ rfl (.tmp 34) (.tmp 40) 22 rfl w.heap.size 24 (.slice none 0 0) 1 24 Tryz.underlying22 li_ints rfl Nat.one_pos (.slice va k vc) k vs rfl HO2'.out (some ⟨w3.heap.size,0,none⟩) 1 1 [.slice (some ⟨gn,0,none⟩) (t+ml) c3] rfl rfl zDM (zDG w3 _ _) (zHI _ _ _) M1.out M2.out M3.out ?_;refine Stop.of ?_)
     refine Stop.go ?_
     intro a5 c5 w5 own5 g5
     have hsn:OwnM w5 w.heap.size (.slice a5 (k+1) c5) (C.take k++[X]):=by
      have own5':w5.ownsRow w.heap.size 24 1 (.slice a5 (k+1) c5) ((C.take k).length+1) (vs++[.slice (some ⟨gn,0,none⟩) X.length c3]):=by rw[HL.out,HXL.out];exact own5
      exact OwnM.snoc (by rw[HL.out];exact HOO.out) HIN.out HE.out HB2'.out (HSR2.out.keep (Below.heap_alloc _ _ _ HSR2.out.lt)) hgn (by rw[HXL.out];exact HC3.out) HBK.out.size g5 own5'
     have hB5:Below w.heap.size w w5:=(HBK.out.trans (HB2'.out.mono HBK.out.size)).grown g5 M3.out (fun q hq=>(HO2'.out.lt q hq).1)
     rw[<- HTK.out]at hsn
     go_wp2
     exact⟨⟨k+1,by omega,by go_num,hsn,hB5⟩,by simp[intOf];omega⟩
  ·obtain rfl:k=n:=by omega
   rw[List.take_of_length_le (by rw[HCL.out,HN.out];exact Nat.le_refl _)]at ho
   go_wp2
   go_ret
   exact⟨_,rfl,ho,hbk⟩
end
section
theorem MaskOk.bnd{M:List (List Int)}{n:Nat}(h:MaskOk M n){t:Nat}(ht:t<=n):∀r∈(pRed M t).1,r.length=n∧∀x∈r,-(720:Int)<=x∧x<=720:=by
 have:=zNA (n:=n) (Y:=1) h.wid h.le6 (fun r hr c _=>h.one r hr c) (fun r hr=>zKW (P:=fun x=> -((1:Nat):Int)<=x∧x<=((1:Nat):Int)) fun c=>by have:=h.one r hr c;omega) ht
 intro r hr
 obtain⟨h1,h2⟩:=this r hr
 exact⟨h1,fun x hx=>by have:=h2 x hx;omega⟩
end
section
open Go.RowKit
def intsJ(J:List Nat):List Int:=J.map (fun j:Nat=>(j:Int))
theorem intsJ_len(J:List Nat):(intsJ J).length=J.length:=by simp[intsJ]
theorem intsJ_vals(J:List Nat):J.map (fun j:Nat=>Value.int .i64 j)=(intsJ J).map (Value.int .i64):=by unfold intsJ;rw[List.map_map];rfl
theorem zDN{W:World}{base:Nat}{v:Value}{n:Nat}{l:List Int}(h:W.ownsRow base 3 1 v n (l.map (Value.int .i64)))(hn:l.length=n):∃a c,v=.slice a n c∧zAE W a l∧n<=maxLen:=by
 subst hn
 rcases h.2 with⟨rfl,h0⟩|⟨g,cap,cur,rfl,hbg,hgg,hnc,hcm,hsz,htk⟩
 ·exact⟨none,0,by rw[h0],fun j hj=>by omega,by rw[h0];decide⟩
 ·refine⟨_,cap,rfl,?_,by omega⟩
  have:=(zFP.own (S:=fun _=>True) (base:=base) ⟨h.1,.inr ⟨g,cap,cur,rfl,hbg,hgg,hnc,hcm,hsz,htk⟩⟩ (show l.length<=maxLen by omega) (fun _ _=>trivial)).ints
  exact this.2.2
end
section
open Go.RowKit
theorem zCN{M:Mask}(h:okM M=true):MaskOk M (zAA M)∧1<=M.length∧M.length<=6∧1<=zAA M∧zAA M<=10:=by
 unfold okM inB at h
 simp only[Bool.and_eq_true,decide_eq_true_eq,List.all_eq_true]at h
 obtain⟨⟨h1,h2⟩,h3⟩:=h
 have hr:∀r∈M,r.length=zAA M∧(1<=r.length∧r.length<=10)∧∀x∈r,-1<=x∧x<=1:=fun r hr=>by
  have h4:=h3 r hr
  unfold zFL inB at h4
  simp only[Bool.and_eq_true,decide_eq_true_eq,List.all_eq_true]at h4
  obtain⟨h5,⟨h6,h7⟩,h8⟩:=h4
  exact⟨h5,⟨by omega,by omega⟩,h8⟩
 have h0:M.length≠0:=by omega
 have hm0:M[0]'(by omega)∈M:=List.getElem_mem _
 obtain⟨k1,k2,_⟩:=hr _ hm0
 refine⟨⟨fun r hr'=>(hr r hr').1,by omega,fun r hr' c=>zET (P:=fun x=> -1<=x∧x<=1) (by decide) (hr r hr').2.2 c⟩,by omega,by omega,by omega,by omega⟩
theorem zCT{w:World}{a:Option Addr}{M:Mask}(H:zAL w a M)(h0:0<M.length):
 ∃b off ra rc,a=some ⟨b,off,none⟩∧b<w.heap.size∧w.cell? ⟨b,off,none⟩=some (.slice ra (zAA M) rc):=by
 obtain⟨b,off,ra,rn,rc,rfl,hb,hc,hn,_,_⟩:=H 0 h0
 refine⟨b,off,ra,rc,rfl,hb,?_⟩
 have e:zAA M=rn:=by unfold zAA;rw[List.getElem?_eq_getElem h0];exact hn
 rw[e];simpa using hc
end
section
open Go.RowKit
def HeadV(W:World)(xs:List Value)(L:List (List Int)):Prop:=
 xs.length=L.length∧∀j (hj:j<L.length),∃ra rn rc,xs[j]? =some (.slice ra rn rc)∧L[j].length=rn∧rn<=maxLen∧zAE W ra L[j]
theorem HeadV.nil(W:World):HeadV W [] []:=⟨rfl,fun j hj=>by simp at hj⟩
theorem HeadV.below{W W':World}{xs:List Value}{L:List (List Int)}(h:HeadV W xs L)(hb:Below W.heap.size W W'):HeadV W' xs L:=
 ⟨h.1,fun j hj=>by obtain⟨ra,rn,rc,h1,h2,h3,h4⟩:=h.2 j hj;exact⟨ra,rn,rc,h1,h2,h3,h4.below hb⟩⟩
theorem HeadV.one{W:World}{ra:Option Addr}{rn rc:Nat}{l:List Int}(hn:l.length=rn)(hm:rn<=maxLen)(h:zAE W ra l):HeadV W [.slice ra rn rc] [l]:=
 ⟨rfl,fun j hj=>by
   obtain rfl:j=0:=by simp at hj;omega
   exact⟨ra,rn,rc,rfl,hn,hm,h⟩⟩
end
section
section
open Go.RowKit
def RowS(W:World)(v:Value)(l:List Int):Prop:=
 (∃g c,v=.slice (some ⟨g,0,none⟩) l.length c∧zBS W g l)∨(l=[]∧∃a c,v=.slice a 0 c)
theorem RowS.below{W W':World}{v:Value}{l:List Int}(h:RowS W v l)(hb:Below W.heap.size W W'):RowS W' v l:=by
 rcases h with⟨g,c,rfl,hs⟩|h
 ·exact .inl ⟨g,c,rfl,hs.keep (hb.block g hs.lt)⟩
 ·exact .inr h
def TabS(W:World)(base:Nat)(v:Value)(L:List (List Int)):Prop:=
 ∃vs,W.ownsRow base 24 1 v L.length vs∧∀j (hj:j<L.length),∃u,vs[j]? =some u∧RowS W u L[j]
theorem TabS.nil(W:World)(base:Nat):TabS W base (.slice none 0 0) []:=⟨[],World.ownsRow_nil _ _ _ _,fun j hj=>by simp at hj⟩
theorem TabS.below{W W':World}{base:Nat}{v:Value}{L:List (List Int)}(h:TabS W base v L)(hb:Below W.heap.size W W'):TabS W' base v L:=by
 obtain⟨vs,h1,h2⟩:=h
 refine⟨vs,zBQ h1 hb,fun j hj=>?_⟩
 obtain⟨u,hu,hr⟩:=h2 j hj
 exact⟨u,hu,hr.below hb⟩
theorem TabS.snoc{W w1 w3:World}{base:Nat}{v v' u:Value}{L:List (List Int)}{r:List Int}{vs:List Value}(h1:W.ownsRow base 24 1 v L.length vs)
 (h2:∀j (hj:j<L.length),∃u,vs[j]? =some u∧RowS W u L[j])(hb:Below W.heap.size W w1)(hr:RowS w1 u r)(hg:w1.grownBy w3 v.ownBlock)
 (ho':w3.ownsRow base 24 1 v' (L.length+1) (vs++[u])):TabS w3 base v' (L++[r]):=by
 have hlen:vs.length=L.length:=by have:=h1.1;omega
 have hown:∀b,v.ownBlock=some b->∃c f,w1.heap[b]? =some (.cells c 24 f):=by
  intro b hb'
  rcases h1.2 with⟨rfl,_⟩|⟨g,cap,cur,rfl,hbg,hgg,_⟩
  ·simp[Value.ownBlock]at hb'
  ·obtain rfl:g=b:=by simpa[Value.ownBlock]using hb'
   exact⟨cur,_,(hb.block g (Array.getElem?_eq_some_iff.1 hgg).1).trans hgg⟩
 have hold:∀b l,zBS w1 b l->zBS w3 b l:=by
  intro b l hs
  refine hs.keep (hg.block b hs.lt ?_)
  intro e
  obtain⟨c,f,hc⟩:=hown b e.symm
  obtain⟨sp,hs⟩:=hs
  rw[hs]at hc
  simp at hc
 have hup:∀u l,RowS w1 u l->RowS w3 u l:=by
  rintro u l (⟨g,c,rfl,hs⟩|h)
  ·exact .inl ⟨g,c,rfl,hold _ _ hs⟩
  ·exact .inr h
 refine⟨vs++[u],by simpa using ho',fun j hj=>?_⟩
 simp only[List.length_append,List.length_cons,List.length_nil,Nat.zero_add]at hj
 by_cases hjl:j<L.length
 ·obtain⟨u',hu',hr'⟩:=h2 j hjl
  rw[List.getElem_append_left hjl]
  exact⟨u',by rw[List.getElem?_append_left (by omega)];exact hu',hup _ _ (hr'.below hb)⟩
 ·obtain rfl:j=L.length:=by omega
  rw[List.getElem_append_right (Nat.le_refl _)]
  simp only[Nat.sub_self,List.getElem_cons_zero]
  exact⟨u,by rw[List.getElem?_append_right (by omega),hlen];simp,hup _ _ hr⟩
end
section
open Go.RowKit
theorem rowS_own{W:World}{b0:Nat}{v:Value}{l:List Int}{n:Nat}(h:W.ownsRow b0 3 1 v n (l.map (Value.int .i64)))(hn:l.length=n):RowS W v l:=by
 rcases Nat.eq_zero_or_pos n with h0|h0
 ·obtain⟨a,c,rfl⟩:=zAH h
  subst h0
  exact .inr ⟨List.length_eq_zero_iff.1 hn,a,c,rfl⟩
 ·obtain⟨g,cap,rfl,_,hs⟩:=zKL h hn h0
  exact .inl ⟨g,cap,by rw[hn],hs⟩
theorem RowS.slice{W:World}{v:Value}{l:List Int}(h:RowS W v l):∃a c,v=.slice a l.length c:=by
 rcases h with⟨g,c,rfl,_⟩|⟨rfl,a,c,rfl⟩
 ·exact⟨_,_,rfl⟩
 ·exact⟨_,_,rfl⟩
end
section
open Go.RowKit
def RowN(N:Option Nat)(W:World)(v:Value)(l:List Int):Prop:=
 (∃g c,v=.slice (some ⟨g,0,none⟩) l.length c∧zBS W g l∧N≠some g)∨(l=[]∧∃a c,v=.slice a 0 c)
theorem RowN.row{N:Option Nat}{W:World}{v:Value}{l:List Int}(h:RowN N W v l):RowS W v l:=by
 rcases h with⟨g,c,e,hs,_⟩|h
 ·exact .inl ⟨g,c,e,hs⟩
 ·exact .inr h
def KeepN(N:Option Nat)(W W':World):Prop:=∀k c,W.heap[k]? =some (.cells c 3 (0,0))->N≠some k->W'.heap[k]? =W.heap[k]?
theorem RowN.keep{N:Option Nat}{W W':World}{v:Value}{l:List Int}(h:RowN N W v l)(hk:KeepN N W W'):RowN N W' v l:=by
 rcases h with⟨g,c,e,hs,hne⟩|h
 ·refine .inl ⟨g,c,e,?_,hne⟩
  obtain⟨sp,hs'⟩:=id hs
  exact hs.keep (hk g _ hs' hne)
 ·exact .inr h
theorem KeepN.below{N:Option Nat}{W W':World}(hb:Below W.heap.size W W'):KeepN N W W':=fun k c h _=>hb.block k (Array.getElem?_eq_some_iff.1 h).1
def TabN(N:Option Nat)(W:World)(base:Nat)(v:Value)(L:List (List Int)):Prop:=
 ∃vs,W.ownsRow base 24 1 v L.length vs∧∀j (hj:j<L.length),∃u,vs[j]? =some u∧RowN N W u L[j]
theorem TabN.nil(N:Option Nat)(W:World)(base:Nat):TabN N W base (.slice none 0 0) []:=⟨[],World.ownsRow_nil _ _ _ _,fun j hj=>by simp at hj⟩
theorem own_kept{W W':World}{base size n:Nat}{T:TypeId}{v:Value}{xs:List Value}(h:W.ownsRow base T size v n xs)(hk:∀k,v.ownBlock=some k->k<W.heap.size->W'.heap[k]? =W.heap[k]?):W'.ownsRow base T size v n xs:=by
 refine⟨h.1,?_⟩
 rcases h.2 with hn|⟨g,cap,cur,rfl,hbg,hgg,rest⟩
 ·exact .inl hn
 ·exact .inr ⟨g,cap,cur,rfl,hbg,(hk g rfl (Array.getElem?_eq_some_iff.1 hgg).1).trans hgg,rest⟩
theorem own_low{W:World}{base b0 size n:Nat}{T:TypeId}{v:Value}{xs:List Value}(h:W.ownsRow base T size v n xs)(hb:b0<=base):W.ownsRow b0 T size v n xs:=by
 refine⟨h.1,?_⟩
 rcases h.2 with hn|⟨g,cap,cur,rfl,hbg,rest⟩
 ·exact .inl hn
 ·exact .inr ⟨g,cap,cur,rfl,Nat.le_trans hb hbg,rest⟩
theorem own_type{W:World}{base size n k:Nat}{T:TypeId}{v:Value}{xs:List Value}(h:W.ownsRow base T size v n xs)(hk:v.ownBlock=some k):base<=k∧∃c,W.heap[k]? =some (.cells c T (0,0)):=by
 rcases h.2 with⟨rfl,_⟩|⟨g,cap,cur,rfl,hbg,hgg,_⟩
 ·simp[Value.ownBlock]at hk
 ·obtain rfl:g=k:=by simpa[Value.ownBlock]using hk
  exact⟨hbg,cur,hgg⟩
theorem TabN.type{N:Option Nat}{W:World}{base k:Nat}{v:Value}{L:List (List Int)}(h:TabN N W base v L)(hk:v.ownBlock=some k):base<=k∧k<W.heap.size∧∃c,W.heap[k]? =some (.cells c 24 (0,0)):=by
 obtain⟨vs,h1,_⟩:=h
 obtain⟨h2,c,h3⟩:=own_type h1 hk
 exact⟨h2,(Array.getElem?_eq_some_iff.1 h3).1,c,h3⟩
theorem TabN.low{N:Option Nat}{W:World}{base b0:Nat}{v:Value}{L:List (List Int)}(h:TabN N W base v L)(hb:b0<=base):TabN N W b0 v L:=by
 obtain⟨vs,h1,h2⟩:=h
 exact⟨vs,own_low h1 hb,h2⟩
theorem TabN.keep{N:Option Nat}{W W':World}{base:Nat}{v:Value}{L:List (List Int)}(h:TabN N W base v L)(hk:KeepN N W W')(ho:∀k,v.ownBlock=some k->k<W.heap.size->W'.heap[k]? =W.heap[k]?):TabN N W' base v L:=by
 obtain⟨vs,h1,h2⟩:=h
 refine⟨vs,own_kept h1 ho,fun j hj=>?_⟩
 obtain⟨u,hu,hr⟩:=h2 j hj
 exact⟨u,hu,hr.keep hk⟩
theorem TabN.below{N:Option Nat}{W W':World}{base:Nat}{v:Value}{L:List (List Int)}(h:TabN N W base v L)(hb:Below W.heap.size W W'):TabN N W' base v L:=
 h.keep (KeepN.below hb) fun k _ hk=>hb.block k hk
theorem TabN.snoc{N:Option Nat}{w1 w3:World}{base:Nat}{v v' u:Value}{L:List (List Int)}{r:List Int}{vs:List Value}(h1:w1.ownsRow base 24 1 v L.length vs)
 (h2:∀j (hj:j<L.length),∃u,vs[j]? =some u∧RowN N w1 u L[j])(hr:RowN N w1 u r)(hg:w1.grownBy w3 v.ownBlock)
 (ho':w3.ownsRow base 24 1 v' (L.length+1) (vs++[u])):TabN N w3 base v' (L++[r]):=by
 have hlen:vs.length=L.length:=by have:=h1.1;omega
 have hK:KeepN N w1 w3:=fun k c hc hn=>hg.block k (Array.getElem?_eq_some_iff.1 hc).1 fun e=>by
  obtain⟨_,c2,h2⟩:=own_type h1 e.symm
  rw[h2]at hc
  cases hc
 refine⟨vs++[u],by simpa using ho',fun j hj=>?_⟩
 simp only[List.length_append,List.length_cons,List.length_nil,Nat.zero_add]at hj
 by_cases hjl:j<L.length
 ·obtain⟨u',hu',hr'⟩:=h2 j hjl
  rw[List.getElem_append_left hjl]
  exact⟨u',by rw[List.getElem?_append_left (by omega)];exact hu',hr'.keep hK⟩
 ·obtain rfl:j=L.length:=by omega
  rw[List.getElem_append_right (Nat.le_refl _)]
  simp only[Nat.sub_self,List.getElem_cons_zero]
  exact⟨u,by rw[List.getElem?_append_right (by omega),hlen];simp,hr.keep hK⟩
end
section
open Go.RowKit
def castL(l:List Nat):List Int:=l.map (fun j:Nat=>(j:Int))
structure RedS (w:World) (R0:Nat) (wr:World) (l d r q p:Value) (left done rest:List (List Int)) (P:List Int) (J:List Nat):Prop where
 hl:TabN p.ownBlock wr w.heap.size l left
 hd:TabN p.ownBlock wr w.heap.size d done
 hr:TabN p.ownBlock wr R0 r rest
 hq:RowN p.ownBlock wr q P
 hp:wr.ownsRow w.heap.size 3 1 p J.length ((castL J).map (Value.int .i64))
 hb:Below w.heap.size w wr
 hR:R0<=wr.heap.size
 hw:w.heap.size<=R0
 lR:∀k,l.ownBlock=some k->k<R0
 dR:∀k,d.ownBlock=some k->k<R0
 pR:∀k,p.ownBlock=some k->k<R0
theorem RedS.below{w:World}{R0:Nat}{A B:World}{l d r q p:Value}{left done rest:List (List Int)}{P:List Int}{J:List Nat}(h:RedS w R0 A l d r q p left done rest P J)(hb:Below A.heap.size A B):RedS w R0 B l d r q p left done rest P J:=
 ⟨h.hl.below hb,h.hd.below hb,h.hr.below hb,h.hq.keep (KeepN.below hb),zBQ h.hp hb,zAB h.hb hb,Nat.le_trans h.hR hb.size,h.hw,h.lR,h.dR,h.pR⟩
theorem TabN.lt{N:Option Nat}{W:World}{base:Nat}{v:Value}{L:List (List Int)}(h:TabN N W base v L){k:Nat}(hk:v.ownBlock=some k):k<W.heap.size:=(h.type hk).2.1
end
end
section
open Go.RowKit
theorem RedS.drop{w:World}{R0:Nat}{A:World}{l d r q p:Value}{left done rest:List (List Int)}{P:List Int}{J:List Nat}(h:RedS w R0 A l d r q p left done rest P J):RedS w R0 A (.slice none 0 0) d r q p [] done rest P J:=
 ⟨TabN.nil _ _ _,h.hd,h.hr,h.hq,h.hp,h.hb,h.hR,h.hw,fun k hk=>by simp[Value.ownBlock]at hk,h.dR,h.pR⟩
end
end Go.Proofs.YtlffndehhhpgjaaGreat
