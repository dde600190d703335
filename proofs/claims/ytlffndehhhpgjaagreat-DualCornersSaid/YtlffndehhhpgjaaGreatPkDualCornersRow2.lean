/- Walks and plain laws for DualCornersRow, part 2. -/
import Derived.StillTailTactics
import Derived.Test.YtlffndehhhpgjaaGreatPkDualCornersRow1
namespace Go.Proofs.YtlffndehhhpgjaaGreat
set_option linter.unusedVariables false
set_option linter.unusedSimpArgs false
set_option maxRecDepth 100000
set_option maxHeartbeats 4000000
section
open Go.RowKit
def zBQ(w:World)(g:Nat)(l:List Int):Prop:=∃sp:List Value,w.heap[g]? =some (.cells (l.map (Value.int .i64)++sp).toArray 3 (0,0))
theorem zBQ.lt{w:World}{g:Nat}{l:List Int}(h:zBQ w g l):g<w.heap.size:=by obtain⟨sp,h⟩:=h;exact(Array.getElem?_eq_some_iff.1 h).1
theorem zBQ.cell{w:World}{g:Nat}{l:List Int}(h:zBQ w g l){j:Nat}(hj:j<l.length):w.cell? ⟨g,j,none⟩=some (.int .i64 (l[j]?.getD 0)):=by
 obtain⟨sp,h⟩:=h
 simp[World.cell?,h,List.getElem?_append_left,hj]
theorem zBQ.frozen{w:World}{g:Nat}{l:List Int}(h:zBQ w g l)(j:Nat):w.frozen? ⟨g,j,none⟩=false:=by
 obtain⟨sp,h⟩:=h
 simp[World.frozen?,h]
theorem zBQ.keep{w w':World}{g:Nat}{l:List Int}(h:zBQ w g l)(hk:w'.heap[g]? =w.heap[g]?):zBQ w' g l:=by
 obtain⟨sp,h⟩:=h;exact⟨sp,hk.trans h⟩
theorem zBQ.set{w:World}{g:Nat}{l:List Int}(h:zBQ w g l)(j:Nat)(hj:j<l.length)(n:Int):zBQ (w.setCell ⟨g,j,none⟩ (.int .i64 n)) g (l.set j n):=by
 obtain⟨sp,h⟩:=h
 refine⟨sp,?_⟩
 rw[zAP h]
 congr 2
 apply Array.toList_inj.1
 simp[List.set_append,hj,List.map_set]
theorem zBQ.ints{w:World}{g:Nat}{l:List Int}(h:zBQ w g l):zAI w (some ⟨g,0,none⟩) l:=
 fun j hj=>⟨g,0,rfl,h.lt,by rw[Nat.zero_add];exact h.cell hj⟩
def OwnM(w:World)(base:Nat)(v:Value)(M:Mask):Prop:=
 ∃(g:Nat->Nat) (vs:List Value),w.ownsRow base 24 1 v M.length vs∧(∀i j,i<M.length->j<M.length->g i=g j->i=j)∧
  ∀j (hj:j<M.length),(∃x,vs[j]? =some (.slice (some ⟨g j,0,none⟩) M[j].length (M[j].length+x)))∧base<=g j∧zBQ w (g j) M[j]
theorem OwnM.nil(w:World)(base:Nat):OwnM w base (.slice none 0 0) []:=
 ⟨fun _=>0,[],World.ownsRow_nil _ _ _ _,fun i j hi=>by simp at hi,fun j hj=>by simp at hj⟩
theorem OwnM.keep{w w':World}{base:Nat}{v:Value}{M:Mask}(h:OwnM w base v M)(hk:∀k,base<=k->k<w.heap.size->w'.heap[k]? =w.heap[k]?):OwnM w' base v M:=by
 obtain⟨g,vs,ho,hi,he⟩:=h
 refine⟨g,vs,⟨ho.1,?_⟩,hi,fun j hj=>?_⟩
 ·rcases ho.2 with hn|⟨g,cap,cur,rfl,hb,hgg,rest⟩
  ·exact .inl hn
  ·exact .inr ⟨g,cap,cur,rfl,hb,(hk g hb (Array.getElem?_eq_some_iff.1 hgg).1).trans hgg,rest⟩
 ·obtain⟨h1,h2,h3⟩:=he j hj
  exact⟨h1,h2,h3.keep (hk _ h2 h3.lt)⟩
theorem OwnM.at{w:World}{base:Nat}{v:Value}{M:Mask}(h:OwnM w base v M)(i:Nat)(hi:i<M.length):
 ∃g0 cap gi c,v=.slice (some ⟨g0,0,none⟩) M.length cap∧g0<w.heap.size∧w.cell? ⟨g0,i,none⟩=some (.slice (some ⟨gi,0,none⟩) M[i].length c)∧base<=gi∧zBQ w gi M[i]∧
  ∀w' r',r'.length=M[i].length->zBQ w' gi r'->(∀k,k<w.heap.size->k≠gi->w'.heap[k]? =w.heap[k]?)->OwnM w' base v (M.set i r'):=by
 obtain⟨g,vs,ho,hin,he⟩:=h
 rcases ho.2 with⟨rfl,h0⟩|⟨g0,cap,cur,rfl,hbg,hgg,hnc,hcm,hsz,htk⟩
 ·omega
 obtain⟨⟨c,h1⟩,h2,h3⟩:=he i hi
 have hc:=World.ownsRow.cellAt (w:=w) (base:=base) (e:=24) (size:=1) (g:=g0) (n:=M.length) (cap:=cap) (xs:=vs) ⟨ho.1,.inr ⟨g0,cap,cur,rfl,hbg,hgg,hnc,hcm,hsz,htk⟩⟩ i (by omega)
 refine⟨g0,cap,g i,_,rfl,(Array.getElem?_eq_some_iff.1 hgg).1,by rw[hc,h1],h2,h3,?_⟩
 intro w' r' hl hr hk
 have hne:g0≠g i:=by
  intro e
  obtain⟨sp,h3⟩:=h3
  rw[<- e,hgg]at h3
  cases h3
 refine⟨g,vs,⟨by simpa using ho.1,.inr ⟨g0,cap,cur,by simp,hbg,(hk g0 (Array.getElem?_eq_some_iff.1 hgg).1 hne).trans hgg,by simpa using hnc,hcm,hsz,by simpa using htk⟩⟩,fun a b ha hb=>hin a b (by simpa using ha) (by simpa using hb),fun j hj=>?_⟩
 have hj':j<M.length:=by simpa using hj
 obtain⟨⟨c',h1'⟩,h2',h3'⟩:=he j hj'
 by_cases e:i=j
 ·subst e
  refine⟨⟨c',?_⟩,h2',?_⟩
  ·rw[h1'];simp[hl]
  ·simpa using hr
 ·refine⟨⟨c',?_⟩,h2',?_⟩
  ·rw[h1'];simp[List.getElem_set_ne e]
  ·rw[List.getElem_set_ne e]
   exact h3'.keep (hk _ h3'.lt (fun e'=>e ((hin j i hj' hi e').symm)))
theorem OwnM.snoc{w w1 w3:World}{base gn cap:Nat}{v v':Value}{M:Mask}{r:List Int}{g:Nat->Nat}{vs:List Value}
 (ho:w.ownsRow base 24 1 v M.length vs)(hin:∀i j,i<M.length->j<M.length->g i=g j->i=j)
 (he:∀j (hj:j<M.length),(∃x,vs[j]? =some (.slice (some ⟨g j,0,none⟩) M[j].length (M[j].length+x)))∧base<=g j∧zBQ w (g j) M[j])
 (hb1:Below w.heap.size w w1)(hr:zBQ w1 gn r)(hgn:w.heap.size<=gn)(hcap:r.length<=cap)(hbase:base<=w.heap.size)(hg:w1.grownBy w3 v.ownBlock)
 (ho':w3.ownsRow base 24 1 v' (M.length+1) (vs++[.slice (some ⟨gn,0,none⟩) r.length cap])):OwnM w3 base v' (M++[r]):=by
 have hlen:vs.length=M.length:=by have:=ho.1;omega
 have hown:∀b,v.ownBlock=some b->b<w.heap.size∧∃c f,w.heap[b]? =some (.cells c 24 f):=by
  intro b hb
  rcases ho.2 with⟨rfl,_⟩|⟨g,cap,cur,rfl,hbg,hgg,_⟩
  ·simp[Value.ownBlock]at hb
  ·obtain rfl:g=b:=by simpa[Value.ownBlock]using hb
   exact⟨(Array.getElem?_eq_some_iff.1 hgg).1,cur,_,hgg⟩
 have hold:∀b l,zBQ w b l->w3.heap[b]? =w.heap[b]? :=by
  intro b l hs
  refine(hg.block b (Nat.lt_of_lt_of_le hs.lt hb1.size) ?_).trans (hb1.block b hs.lt)
  intro e
  obtain⟨_,c,f,hc⟩:=hown b e.symm
  obtain⟨sp,hs⟩:=hs
  rw[hs]at hc
  simp at hc
 have hnew:w3.heap[gn]? =w1.heap[gn]? :=by
  refine hg.block gn hr.lt ?_
  intro e
  have:=(hown gn e.symm).1
  omega
 refine⟨fun j=>if j<M.length then g j else gn,vs++[.slice (some ⟨gn,0,none⟩) r.length cap],by simpa using ho',?_,?_⟩
 ·intro i j hi hj e
  simp only[List.length_append,List.length_cons,List.length_nil,Nat.zero_add]at hi hj
  by_cases h1:i<M.length<;>by_cases h2:j<M.length<;>simp only[h1,h2,if_true,if_false]at e
  ·exact hin i j h1 h2 e
  ·have:=(he i h1).2.2.lt;omega
  ·have:=(he j h2).2.2.lt;omega
  ·omega
 ·intro j hj
  simp only[List.length_append,List.length_cons,List.length_nil,Nat.zero_add]at hj
  by_cases h1:j<M.length
  ·obtain⟨⟨c,hc⟩,h2,h3⟩:=he j h1
   simp only[h1,if_true]
   rw[List.getElem_append_left h1]
   exact⟨⟨c,by rw[List.getElem?_append_left (by omega)];exact hc⟩,h2,h3.keep (hold _ _ h3)⟩
  ·obtain rfl:j=M.length:=by omega
   simp only[Nat.lt_irrefl,if_false]
   rw[List.getElem_append_right (Nat.le_refl _)]
   simp only[Nat.sub_self,List.getElem_cons_zero]
   exact⟨⟨cap-r.length,by rw[List.getElem?_append_right (by omega),hlen,show r.length+(cap-r.length)=cap by omega];simp⟩,by omega,hr.keep hnew⟩
theorem zIF{w:World}{b0:Nat}{v:Value}{l:List Int}{n:Nat}(h:w.ownsRow b0 3 1 v n (l.map (Value.int .i64)))(hn:l.length=n)(h0:0<n):∃g cap,v=.slice (some ⟨g,0,none⟩) n cap∧b0<=g∧zBQ w g l:=by
 rcases h.2 with⟨rfl,h1⟩|⟨g,cap,cur,rfl,hbg,hgg,hnc,hcm,hsz,htk⟩
 ·omega
 ·refine⟨g,cap,rfl,hbg,cur.toList.drop n,?_⟩
  rw[hgg]
  congr 2
  apply Array.toList_inj.1
  simp only[Nat.mul_one]at htk
  rw[<- htk]
  simp
theorem own_cap{w:World}{base size n cap:Nat}{T:TypeId}{a:Option Addr}{xs:List Value}(h:w.ownsRow base T size (.slice a n cap) n xs):n<=cap:=by
 rcases h.2 with⟨e,rfl⟩|⟨g,c,cur,e,hbg,hgg,hnc,_⟩
 ·exact Nat.zero_le _
 ·cases e;exact hnc
def OwnT(w:World)(base top:Nat)(v:Value)(M:List (List Int)):Prop:=
 ∃(g:Nat->Nat) (vs:List Value),w.ownsRow base 24 1 v M.length vs∧(∀k,v.ownBlock=some k->k<top)∧(∀i j,i<M.length->j<M.length->g i=g j->i=j)∧
  ∀j (hj:j<M.length),(∃x,vs[j]? =some (.slice (some ⟨g j,0,none⟩) M[j].length (M[j].length+x)))∧base<=g j∧g j<top∧zBQ w (g j) M[j]
theorem OwnT.of{w:World}{base:Nat}{v:Value}{M:List (List Int)}(h:OwnM w base v M):OwnT w base w.heap.size v M:=by
 obtain⟨g,vs,ho,hi,he⟩:=h
 exact⟨g,vs,ho,fun k hk=>(ho.lt k hk).2,hi,fun j hj=>by obtain⟨h1,h2,h3⟩:=he j hj;exact⟨h1,h2,h3.lt,h3⟩⟩
theorem OwnT.keep{w w':World}{base top:Nat}{v:Value}{M:List (List Int)}(h:OwnT w base top v M)(hk:∀k,base<=k->k<top->k<w.heap.size->w'.heap[k]? =w.heap[k]?):OwnT w' base top v M:=by
 obtain⟨g,vs,ho,ht,hi,he⟩:=h
 refine⟨g,vs,⟨ho.1,?_⟩,ht,hi,fun j hj=>?_⟩
 ·rcases ho.2 with hn|⟨g,cap,cur,rfl,hb,hgg,rest⟩
  ·exact .inl hn
  ·exact .inr ⟨g,cap,cur,rfl,hb,(hk g hb (ht g rfl) (Array.getElem?_eq_some_iff.1 hgg).1).trans hgg,rest⟩
 ·obtain⟨h1,h2,h3,h4⟩:=he j hj
  exact⟨h1,h2,h3,h4.keep (hk _ h2 h3 h4.lt)⟩
theorem OwnT.at{w:World}{base top:Nat}{v:Value}{M:List (List Int)}(h:OwnT w base top v M)(i:Nat)(hi:i<M.length):
 ∃g0 cap gi c,v=.slice (some ⟨g0,0,none⟩) M.length cap∧g0<w.heap.size∧base<=g0∧g0<top∧w.cell? ⟨g0,i,none⟩=some (.slice (some ⟨gi,0,none⟩) M[i].length c)∧(∀j,w.frozen? ⟨g0,j,none⟩=false)∧base<=gi∧gi<top∧g0≠gi∧zBQ w gi M[i]∧M.length<=maxLen∧M.length<=cap∧
  ∀w' r',r'.length=M[i].length->zBQ w' gi r'->(∀k,base<=k->k<top->k<w.heap.size->k≠gi->w'.heap[k]? =w.heap[k]?)->OwnT w' base top v (M.set i r'):=by
 obtain⟨g,vs,ho,ht,hin,he⟩:=h
 rcases ho.2 with⟨rfl,h0⟩|⟨g0,cap,cur,rfl,hbg,hgg,hnc,hcm,hsz,htk⟩
 ·omega
 obtain⟨⟨c,h1⟩,h2,h3,h4⟩:=he i hi
 have hc:=World.ownsRow.cellAt (w:=w) (base:=base) (e:=24) (size:=1) (g:=g0) (n:=M.length) (cap:=cap) (xs:=vs) ⟨ho.1,.inr ⟨g0,cap,cur,rfl,hbg,hgg,hnc,hcm,hsz,htk⟩⟩ i (by omega)
 have hne:g0≠g i:=by
  intro e
  obtain⟨sp,h4⟩:=h4
  rw[<- e,hgg]at h4
  cases h4
 refine⟨g0,cap,g i,_,rfl,(Array.getElem?_eq_some_iff.1 hgg).1,hbg,ht g0 rfl,by rw[hc,h1],fun j=>by simp[World.frozen?,hgg],h2,h3,hne,h4,by omega,hnc,?_⟩
 intro w' r' hl hr hk
 refine⟨g,vs,⟨by simpa using ho.1,.inr ⟨g0,cap,cur,by simp,hbg,(hk g0 hbg (ht g0 rfl) (Array.getElem?_eq_some_iff.1 hgg).1 hne).trans hgg,by simpa using hnc,hcm,hsz,by simpa using htk⟩⟩,ht,fun a b ha hb=>hin a b (by simpa using ha) (by simpa using hb),fun j hj=>?_⟩
 have hj':j<M.length:=by simpa using hj
 obtain⟨⟨c',h1'⟩,h2',h3',h4'⟩:=he j hj'
 by_cases e:i=j
 ·subst e
  refine⟨⟨c',?_⟩,h2',h3',?_⟩
  ·rw[h1'];simp[hl]
  ·simpa using hr
 ·refine⟨⟨c',?_⟩,h2',h3',?_⟩
  ·rw[h1'];simp[List.getElem_set_ne e]
  ·rw[List.getElem_set_ne e]
   exact h4'.keep (hk _ h2' h3' h4'.lt (fun e'=>e ((hin j i hj' hi e').symm)))
theorem swap_get{α:Type}{l:List α}{i j k:Nat}(hi:i<l.length)(hj:j<l.length):((l.set i l[j]).set j l[i])[k]? =if k=j then some l[i]else if k=i then some l[j]else l[k]? :=by
 rw[List.getElem?_set,List.getElem?_set]
 by_cases e1:k=j
 ·subst e1;simp[hj]
 ·rw[if_neg (Ne.symm e1),if_neg e1]
  by_cases e2:k=i
  ·subst e2;simp[hi]
  ·rw[if_neg (Ne.symm e2),if_neg e2]
theorem OwnT.swap{w:World}{base top:Nat}{v:Value}{M:List (List Int)}(h:OwnT w base top v M){i j:Nat}(hi:i<M.length)(hj:j<M.length){g0 cap:Nat}{hi' hj':Value}(hv:v=.slice (some ⟨g0,0,none⟩) M.length cap)
 (ci:w.cell? ⟨g0,i,none⟩=some hi')(cj:w.cell? ⟨g0,j,none⟩=some hj'):
 OwnT ((w.setCell ⟨g0,i,none⟩ hj').setCell ⟨g0,j,none⟩ hi') base top v ((M.set i M[j]).set j M[i])∧∀k,k≠g0->((w.setCell ⟨g0,i,none⟩ hj').setCell ⟨g0,j,none⟩ hi').heap[k]? =w.heap[k]? :=by
 have hkeep:∀k,k≠g0->((w.setCell ⟨g0,i,none⟩ hj').setCell ⟨g0,j,none⟩ hi').heap[k]? =w.heap[k]? :=fun k hk=>
  (Below.heap_setCell _ _ _ _ hk).trans (Below.heap_setCell _ _ _ _ hk)
 refine⟨?_,hkeep⟩
 obtain⟨g,vs,ho,ht,hin,he⟩:=h
 subst hv
 rcases ho.2 with⟨hc,h0⟩|⟨g1,cap',cur,hv,hbg,hgg,hnc,hcm,hsz,htk⟩
 ·cases hc
 cases hv
 have hcell:=World.ownsRow.cellAt (w:=w) (base:=base) (e:=24) (size:=1) (g:=g0) (n:=M.length) (cap:=cap) (xs:=vs) ⟨ho.1,.inr ⟨g0,cap,cur,rfl,hbg,hgg,hnc,hcm,hsz,htk⟩⟩
 have hvl:vs.length=M.length:=by have:=ho.1;omega
 have ei:vs[i]'(by omega)=hi':=by have:=hcell i (by omega);rw[ci,List.getElem?_eq_getElem (by omega)]at this;exact(Option.some.inj this).symm
 have ej:vs[j]'(by omega)=hj':=by have:=hcell j (by omega);rw[cj,List.getElem?_eq_getElem (by omega)]at this;exact(Option.some.inj this).symm
 have hb2:((w.setCell ⟨g0,i,none⟩ hj').setCell ⟨g0,j,none⟩ hi').heap[g0]? =some (.cells ((cur.setIfInBounds i hj').setIfInBounds j hi') 24 (0,0)):=zAP (zAP hgg i hj') j hi'
 have hcl:cur.toList.length=cap:=by simpa using hsz
 have hML:M.length<=cap:=hnc
 refine⟨fun k=>if k=j then g i else if k=i then g j else g k,(vs.set i (vs[j]'(by omega))).set j (vs[i]'(by omega)),⟨by simpa using ho.1,.inr ⟨g0,cap,(cur.setIfInBounds i hj').setIfInBounds j hi',by simp,hbg,hb2,by simpa using hnc,hcm,by simpa using hsz,?_⟩⟩,ht,?_,?_⟩
 ·rw[ei,ej,<- htk]
  simp only[Array.toList_setIfInBounds,List.length_set,Nat.mul_one]
  rw[List.take_set,List.take_set]
 ·intro a b ha hb
  have ha':a<M.length:=by simpa using ha
  have hb':b<M.length:=by simpa using hb
  have hs:∀k,(if k=j then g i else if k=i then g j else g k)=g (if k=j then i else if k=i then j else k):=fun k=>by
   by_cases e1:k=j
   ·rw[if_pos e1,if_pos e1]
   ·rw[if_neg e1,if_neg e1]
    by_cases e2:k=i
    ·rw[if_pos e2,if_pos e2]
    ·rw[if_neg e2,if_neg e2]
  have hlt:∀k,k<M.length->(if k=j then i else if k=i then j else k)<M.length:=fun k hk=>by
   split
   ·exact hi
   ·split
    ·exact hj
    ·exact hk
  intro hg
  simp only[hs]at hg
  have h2:=hin _ _ (hlt a ha') (hlt b hb') hg
  clear hg hs hlt hin he
  (repeat' split at h2)<;>omega
 ·intro k hk
  have hk':k<M.length:=by simpa using hk
  have hm:=swap_get (k:=k) hi hj
  rw[List.getElem?_eq_getElem (by simpa using hk')]at hm
  have hs:=swap_get (l:=vs) (i:=i) (j:=j) (k:=k) (by omega) (by omega)
  have hsp:∀x,x<M.length->((w.setCell ⟨g0,i,none⟩ hj').setCell ⟨g0,j,none⟩ hi').heap[g x]? =w.heap[g x]? :=fun x hx=>hkeep _ (by
   intro e
   obtain⟨_,_,_,sp,h4⟩:=he x hx
   rw[e,hgg]at h4
   cases h4)
  by_cases e1:k=j
  ·subst e1
   obtain⟨⟨c',h1'⟩,h2',h3',h4'⟩:=he i hi
   simp only[if_true]at hm hs⊢
   have hm':=Option.some.inj hm
   rw[hm']
   refine⟨⟨c',?_⟩,h2',h3',h4'.keep (hsp i hi)⟩
   rw[hs,<- h1',List.getElem?_eq_getElem]
  ·by_cases e2:k=i
   ·subst e2
    obtain⟨⟨c',h1'⟩,h2',h3',h4'⟩:=he j hj
    simp only[if_neg e1,if_true]at hm hs⊢
    have hm':=Option.some.inj hm
    rw[hm']
    refine⟨⟨c',?_⟩,h2',h3',h4'.keep (hsp j hj)⟩
    rw[hs,<- h1',List.getElem?_eq_getElem]
   ·obtain⟨⟨c',h1'⟩,h2',h3',h4'⟩:=he k hk'
    simp only[if_neg e1,if_neg e2]at hm hs⊢
    rw[List.getElem?_eq_getElem hk']at hm
    have hm':=Option.some.inj hm
    rw[hm']
    refine⟨⟨c',?_⟩,h2',h3',h4'.keep (hsp k hk')⟩
    rw[hs,h1']
theorem own_keep{S:Nat->Prop}{W W':World}{base size n:Nat}{T:TypeId}{v:Value}{xs:List Value}(h:W.ownsRow base T size v n xs)(hk:Keep S W W')(h1:∀k,base<=k->S k):W'.ownsRow base T size v n xs:=by
 refine⟨h.1,?_⟩
 rcases h.2 with hn|⟨g,cap,cur,rfl,hbg,hgg,rest⟩
 ·exact .inl hn
 ·exact .inr ⟨g,cap,cur,rfl,hbg,(hk.block g (Array.getElem?_eq_some_iff.1 hgg).1 (h1 g hbg)).trans hgg,rest⟩
theorem zBI{W W':World}{base size n:Nat}{T:TypeId}{v:Value}{xs:List Value}(h:W.ownsRow base T size v n xs)(hb:Below W.heap.size W W'):W'.ownsRow base T size v n xs:=
 own_keep (S:=fun _=>True) h (Keep.of_below hb) (fun _ _=>trivial)
theorem OwnT.info{w:World}{base top g0 n cap:Nat}{M:List (List Int)}(h:OwnT w base top (.slice (some ⟨g0,0,none⟩) n cap) M)(hn:M.length=n):base<=g0∧g0<top∧g0<w.heap.size∧n<=cap∧cap<=maxLen∧(∀j,w.frozen? ⟨g0,j,none⟩=false)∧∃c f,w.heap[g0]? =some (.cells c 24 f):=by
 subst hn
 obtain⟨g,vs,ho,ht,hin,he⟩:=h
 rcases ho.2 with⟨hc,h0⟩|⟨g1,cap1,cur,e,hbg,hgg,hnc,hcm,hsz,htk⟩
 ·cases hc
 ·cases e
  exact⟨hbg,ht g0 rfl,(Array.getElem?_eq_some_iff.1 hgg).1,hnc,hcm,fun j=>by simp[World.frozen?,hgg],cur,_,hgg⟩
theorem OwnT.rowsAt{w:World}{base top g0 n cap:Nat}{M:List (List Int)}(h:OwnT w base top (.slice (some ⟨g0,0,none⟩) n cap) M)(hn:M.length=n)(hl:∀r∈M,r.length<=maxLen):zAN w (some ⟨g0,0,none⟩) M:=by
 subst hn
 intro j hj
 obtain⟨g0',cap',gi,c,e,hlt,_,_,hc,_,_,_,_,hr,_⟩:=h.at j hj
 cases e
 exact⟨g0,0,some ⟨gi,0,none⟩,_,c,rfl,hlt,by rw[Nat.zero_add];exact hc,rfl,hl _ (List.getElem_mem hj),hr.ints⟩
theorem OwnT.row{w:World}{base top g0 n cap:Nat}{M:List (List Int)}(h:OwnT w base top (.slice (some ⟨g0,0,none⟩) n cap) M)(hn:M.length=n)(i:Nat)(hi:i<M.length):
 ∃gi c,w.cell? ⟨g0,i,none⟩=some (.slice (some ⟨gi,0,none⟩) M[i].length c)∧base<=gi∧gi<top∧g0≠gi∧zBQ w gi M[i]∧
  ∀w' r',r'.length=M[i].length->zBQ w' gi r'->(∀k,base<=k->k<top->k<w.heap.size->k≠gi->w'.heap[k]? =w.heap[k]?)->OwnT w' base top (.slice (some ⟨g0,0,none⟩) n cap) (M.set i r'):=by
 subst hn
 obtain⟨g0',cap',gi,c,e,_,_,_,hc,_,h1,h2,h3,h4,_,_,h5⟩:=h.at i hi
 cases e
 exact⟨gi,c,hc,h1,h2,h3,h4,h5⟩
theorem OwnT.ne{w:World}{base top g0 n cap:Nat}{M:List (List Int)}(h:OwnT w base top (.slice (some ⟨g0,0,none⟩) n cap) M)(hn:M.length=n){i j:Nat}(hi:i<M.length)(hj:j<M.length)(hne:i≠j){gi gj ni nj ci cj:Nat}
 (h1:w.cell? ⟨g0,i,none⟩=some (.slice (some ⟨gi,0,none⟩) ni ci))(h2:w.cell? ⟨g0,j,none⟩=some (.slice (some ⟨gj,0,none⟩) nj cj)):gi≠gj:=by
 subst hn
 obtain⟨g,vs,ho,ht,hin,he⟩:=h
 have hcell:∀k,k<M.length->w.cell? ⟨g0,k,none⟩=vs[k]? :=fun k hk=>by
  have:=World.ownsRow.cellAt (w:=w) (base:=base) (e:=24) (size:=1) (g:=g0) (n:=M.length) (cap:=cap) (xs:=vs) ho k (by omega)
  exact this
 obtain⟨⟨c,k1⟩,_⟩:=he i hi
 obtain⟨⟨c',k2⟩,_⟩:=he j hj
 rw[hcell i hi,k1]at h1
 rw[hcell j hj,k2]at h2
 cases h1;cases h2
 exact fun e=>hne (hin i j hi hj e)
end
section
section
def jf(J:List Nat)(k:Nat):Nat:=J[k]?.getD 0
def rowv(L:List (List Int))(i:Nat):Vec:=vec (L[i]?.getD [])
theorem zGA{L:List (List Int)}{i:Nat}(h:i<L.length):rowv L i=vec L[i]:=by unfold rowv;rw[List.getElem?_eq_getElem h];rfl
structure RInv (W N:Nat) (A0:Nat->Vec) (j:Nat) (L:List (List Int)) (J:List Nat):Prop where
 len:L.length=N
 wid:∀r∈L,r.length=W
 st:∃A:Nat->Vec,Stage J.length N (jf J) (rowv L) A∧∀q,∃q0,A q=A0 q0
 sp1:∀q,q<N->Sp (RB N A0) (rowv L q)
 sp2:∀q,q<N->Sp (RB N (rowv L)) (A0 q)
 pr:∀q,q<N->Prim (rowv L q)∨(∀c,rowv L q c=0)∨∃q0,∀c,rowv L q c=A0 q0 c
 pp:∀k,k<J.length->Prim (rowv L k)∧0<rowv L k (jf J k)
 asc:J.Pairwise (· < ·)
 lt:∀x∈J,x<j
 lead:∀k,k<J.length->∀c,c<jf J k->rowv L k c=0
 zero:∀q,J.length<=q->q<N->∀c,c<j->rowv L q c=0
theorem RInv.start{W:Nat}(L:List (List Int))(hw:∀r∈L,r.length=W):RInv W L.length (rowv L) 0 L []:=
 ⟨rfl,hw,⟨rowv L,Stage.start _ _ _,fun q=>⟨q,rfl⟩⟩,fun q hq=>RB.sp hq,fun q hq=>RB.sp hq,fun q hq=>.inr (.inr ⟨q,fun c=>rfl⟩),fun k hk=>by simp at hk,List.Pairwise.nil,fun x hx=>by simp at hx,fun k hk=>by simp at hk,fun q _ _ c hc=>by omega⟩
theorem RInv.skip{W N:Nat}{A0:Nat->Vec}{j:Nat}{L:List (List Int)}{J:List Nat}(h:RInv W N A0 j L J)(h0:∀q,J.length<=q->q<N->rowv L q j=0):RInv W N A0 (j+1) L J:=
 ⟨h.len,h.wid,h.st,h.sp1,h.sp2,h.pr,h.pp,h.asc,fun x hx=>by have:=h.lt x hx;omega,h.lead,fun q h1 h2 c hc=>by
   by_cases e:c=j
   ·subst e;exact h0 q h1 h2
   ·exact h.zero q h1 h2 c (by omega)⟩
theorem RInv.K_le{W N:Nat}{A0:Nat->Vec}{j:Nat}{L:List (List Int)}{J:List Nat}(h:RInv W N A0 j L J):J.length<=N:=by
 obtain⟨A,hs,_⟩:=h.st;exact hs.le
theorem RInv.step{W N:Nat}{A0:Nat->Vec}{j:Nat}{L L':List (List Int)}{J:List Nat}(h:RInv W N A0 j L J){i:Nat}{pi:Nat->Nat}
 (lo:J.length<=i)(hi:i<N)(ne:rowv L i j≠0)(hpr:Prim (rowv L i))(hlen:L'.length=N)(hwid:∀r∈L',r.length=W)
 (fix:∀q,q<J.length->pi q=q)(at':pi J.length=i)(rest:∀q,J.length<q->q<N->J.length<=pi q∧pi q<N)(surj:∀m,m<N->∃q,q<N∧pi q=m)
 (pivot:∃z:Int,(z=1∨z= -1)∧∀c,rowv L' J.length c=z*rowv L i c)(ppos:0<rowv L' J.length j)
 (other:∀q,q<N->q≠J.length->rowv L' q j=0∧(Prim (rowv L' q)∨(∀c,rowv L' q c=0)∨∀c,rowv L' q c=rowv L (pi q) c)∧∃x y g:Int,0<x∧0<g∧∀c,g*rowv L' q c=x*rowv L (pi q) c+y*rowv L i c):
 RInv W N A0 (j+1) L' (J++[j]):=by
 obtain⟨A,hs,hA⟩:=h.st
 obtain⟨z,hz,hzR⟩:=pivot
 have hz0:z≠0:=by rcases hz with rfl|rfl<;>decide
 have hKN:J.length<N:=Nat.lt_of_le_of_lt lo hi
 have jlt:∀k,k<J.length->jf (J++[j]) k=jf J k:=fun k hk=>by unfold jf;rw[List.getElem?_append_left hk]
 have jat:jf (J++[j]) J.length=j:=by unfold jf;simp
 have jmem:∀k,k<J.length->jf J k∈J:=fun k hk=>by unfold jf;rw[List.getElem?_eq_getElem hk];exact List.getElem_mem hk
 have step:Step J.length N i j pi (rowv L) (rowv L') A (fun q=>A (pi q)):=⟨lo,hi,ne,fun q=>rfl,fix,at',rest,surj,⟨z,hz0,hzR⟩,fun q hq hne=>by
  obtain⟨h1,_,x,y,g,hx,hg,e⟩:=other q hq hne
  exact⟨h1,x,y,g,by omega,by omega,e⟩⟩
 have hst:=hs.step step (jf (J++[j])) jlt jat
 have hiz:∀c,c<j->rowv L i c=0:=h.zero i lo hi
 have pib:∀q,q<N->pi q<N:=fun q hq=>by
  rcases Nat.lt_trichotomy q J.length with h1|h1|h1
  ·rw[fix q h1];exact hq
  ·subst h1;rw[at'];exact hi
  ·exact(rest q h1 hq).2
 have hlow:∀q,q<N->q≠J.length->∀c,rowv L (pi q) c=0->rowv L i c=0->rowv L' q c=0:=by
  intro q hq hne c h1 h2
  obtain⟨_,_,x,y,g,hx,hg,e⟩:=other q hq hne
  have:=e c
  rw[h1,h2]at this
  exact zAV (g:=g) (by omega) (by simpa using this)
 refine⟨hlen,hwid,⟨_,by rw[List.length_append];exact hst,fun q=>hA (pi q)⟩,?_,?_,?_,?_,?_,?_,?_,?_⟩
 ·intro q hq
  by_cases e:q=J.length
  ·subst e;exact(Sp.mul z (h.sp1 i hi)).congr hzR
  ·obtain⟨_,_,x,y,g,hx,hg,e⟩:=other q hq e
   exact Sp.of_eq (n:=g) (by omega) (h.sp1 (pi q) (pib q hq)) (h.sp1 i hi) e
 ·have hRi:Sp (RB N (rowv L')) (rowv L i):=Sp.div hz0 ((RB.sp hKN).congr fun c=>(hzR c).symm)
  intro q hq
  refine(h.sp2 q hq).trans ?_
  rintro v ⟨m,hm,rfl⟩
  by_cases e:m=i
  ·subst e;exact hRi
  ·obtain⟨q',hq',e'⟩:=surj m hm
   have hne:q'≠J.length:=fun h=>by subst h;rw[at']at e';exact e e'.symm
   obtain⟨_,_,x,y,g,hx,hg,e2⟩:=other q' hq' hne
   rw[e']at e2
   refine Sp.of_eq (n:=x) (x:=g) (y:= -y) (by omega) (RB.sp hq') hRi fun c=>?_
   have:=e2 c
   grind
 ·intro q hq
  by_cases e:q=J.length
  ·subst e;exact .inl (zPC hz hzR hpr)
  ·obtain⟨_,h2,_⟩:=other q hq e
   rcases h2 with h2|h2|h2
   ·exact .inl h2
   ·exact .inr (.inl h2)
   ·rcases h.pr (pi q) (pib q hq)with h3|h3|⟨q0,h3⟩
    ·exact .inl (fun g hg=>h3 g fun c=>by rw[<- h2];exact hg c)
    ·exact .inr (.inl fun c=>by rw[h2,h3])
    ·exact .inr (.inr ⟨q0,fun c=>by rw[h2,h3]⟩)
 ·intro k hk
  rw[List.length_append]at hk
  simp only[List.length_singleton]at hk
  by_cases e:k=J.length
  ·subst e;rw[jat];exact⟨zPC hz hzR hpr,ppos⟩
  ·have hk':k<J.length:=by omega
   rw[jlt k hk']
   obtain⟨p1,p2⟩:=h.pp k hk'
   obtain⟨_,h2,x,y,g,hx,hg,e2⟩:=other k (by omega) e
   rw[fix k hk']at h2 e2
   have hpos:0<rowv L' k (jf J k):=by
    have:=e2 (jf J k)
    rw[hiz _ (h.lt _ (jmem k hk'))]at this
    have h3:0<x*rowv L k (jf J k):=Int.mul_pos hx p2
    rcases Int.lt_trichotomy (rowv L' k (jf J k)) 0 with h4|h4|h4
    ·have:=Int.mul_neg_of_pos_of_neg hg h4;omega
    ·rw[h4]at this;omega
    ·exact h4
   refine⟨?_,hpos⟩
   rcases h2 with h2|h2|h2
   ·exact h2
   ·rw[h2]at hpos;omega
   ·exact fun g hg=>p1 g fun c=>by rw[<- h2];exact hg c
 ·rw[List.pairwise_append]
  exact⟨h.asc,by simp,fun a ha b hb=>by simp at hb;subst hb;exact h.lt a ha⟩
 ·intro x hx
  rcases List.mem_append.1 hx with hx|hx
  ·have:=h.lt x hx;omega
  ·simp at hx;omega
 ·intro k hk c hc
  rw[List.length_append]at hk
  simp only[List.length_singleton]at hk
  by_cases e:k=J.length
  ·subst e;rw[jat]at hc;rw[hzR,hiz c hc];simp
  ·have hk':k<J.length:=by omega
   rw[jlt k hk']at hc
   have:=h.lt _ (jmem k hk')
   exact hlow k (by omega) e c (by rw[fix k hk'];exact h.lead k hk' c hc) (hiz c (by omega))
 ·intro q h1 h2 c hc
  rw[List.length_append]at h1
  simp only[List.length_singleton]at h1
  by_cases e:c=j
  ·subst e;exact(other q h2 (by omega)).1
  ·obtain⟨r1,r2⟩:=rest q (by omega) h2
   exact hlow q h2 (by omega) c (h.zero _ r1 r2 c (by omega)) (hiz c (by omega))
theorem fact_6{n:Nat}(h:n<=6):fact n<=720:=by
 match n,h with
 |0,_=>decide
 |1,_=>decide
 |2,_=>decide
 |3,_=>decide
 |4,_=>decide
 |5,_=>decide
 |6,_=>decide
theorem RInv.le{W N:Nat}{A0:Nat->Vec}{j:Nat}{L:List (List Int)}{J:List Nat}(h:RInv W N A0 j L J)(hN:N<=6)(h1:∀x∈J,∀r,-1<=A0 r x∧A0 r x<=1)
 {c Y:Nat}(hY:∀r,-(Y:Int)<=A0 r c∧A0 r c<=Y){q:Nat}(hq:q<N):(rowv L q c).natAbs<=720*Y:=by
 obtain⟨A,hs,hA⟩:=h.st
 have hA1:∀k,k<J.length->∀r,-1<=A r (jf J k)∧A r (jf J k)<=1:=by
  intro k hk r
  obtain⟨q0,e⟩:=hA r
  rw[e]
  exact h1 _ (by unfold jf;rw[List.getElem?_eq_getElem hk];exact List.getElem_mem hk) q0
 have hAY:∀r,-(Y:Int)<=A r c∧A r c<=Y:=fun r=>by obtain⟨q0,e⟩:=hA r;rw[e];exact hY q0
 have key:∀n:Nat,1<=n->n<=6->((n:Nat)*((Y:Int)*(fact (n-1):Int))).toNat<=720*Y:=by
  intro n hn1 hn6
  have e:(n:Nat)*((Y:Int)*(fact (n-1):Int))=((fact n*Y:Nat):Int):=by
   obtain⟨m,rfl⟩:∃m,n=m+1:=⟨n-1,by omega⟩
   simp only[Nat.add_sub_cancel,fact]
   push_cast
   grind
  rw[e,Int.toNat_natCast]
  exact Nat.mul_le_mul_right _ (fact_6 hn6)
 rcases h.pr q hq with hp|hz|⟨q0,e⟩
 ·rcases Nat.lt_or_ge q J.length with hk|hk
  ·exact Nat.le_trans (hs.up_le hA1 hk hp hAY) (key J.length (by omega) (Nat.le_trans hs.le hN))
  ·have:=hs.low_le hA1 hk hq hp hAY
   have h2:=key (J.length+1) (by omega) (by omega)
   rw[Nat.add_sub_cancel]at h2
   exact Nat.le_trans this h2
 ·rw[hz];simp
 ·rw[e c]
  have:=hY q0
  have h3:(A0 q0 c).natAbs<=Y:=by omega
  exact Nat.le_trans h3 (Nat.le_mul_of_pos_left _ (by decide))
theorem RInv.piv_dvd{W N:Nat}{A0:Nat->Vec}{j:Nat}{L:List (List Int)}{J:List Nat}(h:RInv W N A0 j L J)(hN:N<=6)(h1:∀x∈J,∀r,-1<=A0 r x∧A0 r x<=1):
 ∃d:Nat,0<d∧d<=720∧∀k,k<J.length->rowv L k (jf J k)∣(d:Int):=by
 obtain⟨A,hs,hA⟩:=h.st
 have hd:=det_le (zCU (jf J) A J.length) (fun x hx r=>by
  obtain⟨k,hk,rfl⟩:=zFU.1 hx
  obtain⟨q0,e⟩:=hA r
  simp only[e]
  exact h1 _ (by unfold jf;rw[List.getElem?_eq_getElem hk];exact List.getElem_mem hk) q0) (zCO J.length) (by rw[zEY,zDC])
 rw[zDC]at hd
 have h6:=fact_6 (Nat.le_trans hs.le hN)
 have h0:=hs.d0
 refine⟨(det (zCU (jf J) A J.length) (zCO J.length)).natAbs,by omega,by omega,fun k hk=>?_⟩
 exact Int.dvd_natAbs.2 (hs.piv_dvd hk (h.pp k hk).1)
theorem RInv.jf_lt{W N:Nat}{A0:Nat->Vec}{j:Nat}{L:List (List Int)}{J:List Nat}(h:RInv W N A0 j L J){k:Nat}(hk:k<J.length):jf J k<j:=by
 have:jf J k=J[k]:=by unfold jf;rw[List.getElem?_eq_getElem hk];rfl
 rw[this];exact h.lt _ (List.getElem_mem hk)
theorem RInv.ech{W N:Nat}{A0:Nat->Vec}{j:Nat}{L:List (List Int)}{J:List Nat}(h:RInv W N A0 j L J):Ech J.length (jf J) (rowv L):=by
 obtain⟨A,hs,_⟩:=h.st
 refine⟨hs.red,h.lead,fun k q hkq hq=>?_⟩
 have h1:jf J k=J[k]'(by omega):=by unfold jf;rw[List.getElem?_eq_getElem (by omega)];rfl
 have h2:jf J q=J[q]:=by unfold jf;rw[List.getElem?_eq_getElem hq];rfl
 rw[h1,h2]
 exact List.pairwise_iff_getElem.1 h.asc k q (by omega) hq hkq
theorem RInv.span{W N:Nat}{A0:Nat->Vec}{j:Nat}{L:List (List Int)}{J:List Nat}(h:RInv W N A0 j L J)(h0:∀q,J.length<=q->q<N->∀c,rowv L q c=0){v:Vec}:
 Sp (RB J.length (rowv L)) v↔Sp (RB N A0) v:=by
 have hK:=h.K_le
 constructor
 ·intro hv
  refine hv.trans ?_
  rintro u ⟨k,hk,rfl⟩
  exact h.sp1 k (by omega)
 ·intro hv
  refine hv.trans ?_
  rintro u ⟨k,hk,rfl⟩
  refine(h.sp2 k hk).trans ?_
  rintro u ⟨q,hq,rfl⟩
  rcases Nat.lt_or_ge q J.length with h1|h1
  ·exact RB.sp h1
  ·exact Sp.zero.congr (h0 q h1 hq)
theorem RInv.unique{W N N':Nat}{A0 A0':Nat->Vec}{j j':Nat}{L L':List (List Int)}{J J':List Nat}(h:RInv W N A0 j L J)(h':RInv W N' A0' j' L' J')
 (h0:∀q,J.length<=q->q<N->∀c,rowv L q c=0)(h0':∀q,J'.length<=q->q<N'->∀c,rowv L' q c=0)(hs:∀v,Sp (RB N A0) v↔Sp (RB N' A0') v):
 J=J'∧∀k,k<J.length->L[k]? =L'[k]? :=by
 obtain⟨hK,hJ,hR⟩:=h.ech.unique h'.ech
  (fun k hk=>(h'.span h0').2 ((hs _).1 ((h.span h0).1 (RB.sp hk))))
  (fun k hk=>(h.span h0).2 ((hs _).2 ((h'.span h0').1 (RB.sp hk))))
 refine⟨List.ext_getElem hK fun k h1 h2=>?_,fun k hk=>?_⟩
 ·have:=hJ k h1
  unfold jf at this
  rw[List.getElem?_eq_getElem h1,List.getElem?_eq_getElem h2]at this
  simpa using this
 ·have hk':k<J'.length:=by omega
  have hKN:=h.K_le
  have hKN':=h'.K_le
  have hl:k<L.length:=by rw[h.len];omega
  have hl':k<L'.length:=by rw[h'.len];omega
  obtain⟨p1,p2⟩:=h.pp k hk
  obtain⟨q1,q2⟩:=h'.pp k hk'
  rw[<- hJ k hk]at q2
  have e:=prim_eq q2 p2 (hR k hk) p1 q1
  rw[List.getElem?_eq_getElem hl,List.getElem?_eq_getElem hl']
  rw[zGA hl,zGA hl']at e
  have w1:=h.wid _ (List.getElem_mem hl)
  have w2:=h'.wid _ (List.getElem_mem hl')
  refine congrArg some (List.ext_getElem (by omega) fun c c1 c2=>?_)
  rw[<- zCY c1,<- zCY c2];exact e c
end
section
def nz(j:Nat)(r:List Int):Bool:=decide (vec r j≠0)
def zGJ(L:List (List Int))(a b:Nat):List (List Int):=(L.set a (L[b]?.getD [])).set b (L[a]?.getD [])
def zFF(p:List Int)(k j i:Nat)(row:List Int):List Int:=if i≠k∧vec row j≠0 then zGH row p j else row
def zCX(L:List (List Int))(k j:Nat):List (List Int):=(L.set k (posF (L[k]?.getD []) j)).mapIdx (zFF (posF (L[k]?.getD []) j) k j)
def zMN(s:List (List Int)×List Nat)(j:Nat):List (List Int)×List Nat:=
 match (s.1.drop s.2.length).findIdx? (nz j)with
 |none=>s
 |some a=>(zCX (zGJ s.1 s.2.length (s.2.length+a)) s.2.length j,s.2++[j])
def pRed(L:List (List Int))(n:Nat):List (List Int)×List Nat:=(List.range n).foldl zMN (L,[])
theorem zIS(L:List (List Int))(n:Nat):pRed L (n+1)=zMN (pRed L n) n:=by
 unfold pRed;rw[List.range_succ,List.foldl_append];rfl
theorem zGM(L:List (List Int))(a b:Nat):(zGJ L a b).length=L.length:=by simp[zGJ]
theorem zGZ(L:List (List Int))(k j:Nat):(zCX L k j).length=L.length:=by simp[zCX]
theorem zMB{L:List (List Int)}{a b:Nat}(ha:a<L.length)(hb:b<L.length)(q:Nat):(zGJ L a b)[q]?.getD []=L[if q=a then b else if q=b then a else q]?.getD []:=by
 unfold zGJ
 rw[List.getElem?_set,List.getElem?_set]
 by_cases e1:q=b
 ·subst e1
  by_cases e2:q=a
  ·subst e2;simp[ha]
  ·simp[e2,hb]
 ·by_cases e2:q=a
  ·subst e2;simp[Ne.symm e1,ha]
  ·simp[Ne.symm e1,Ne.symm e2,e1,e2]
theorem clearAll_at{L:List (List Int)}{k:Nat}(hk:k<L.length)(j:Nat):(zCX L k j)[k]?.getD []=posF (L[k]?.getD []) j:=by
 unfold zCX
 rw[List.getElem?_mapIdx,List.getElem?_set_self hk]
 simp[zFF]
theorem clearAll_ne{L:List (List Int)}{k q:Nat}(hq:q<L.length)(hne:q≠k)(j:Nat):(zCX L k j)[q]?.getD []=zFF (posF (L[k]?.getD []) j) k j q (L[q]?.getD []):=by
 unfold zCX
 rw[List.getElem?_mapIdx,List.getElem?_set_ne (Ne.symm hne),List.getElem?_eq_getElem hq]
 simp
theorem unit_prim{V:Vec}{j:Nat}(h: -1<=V j∧V j<=1)(h0:V j≠0):Prim V:=by
 intro g hg
 have:=hg j
 rcases(show V j=1∨V j= -1 by omega)with e|e
 ·rw[e]at this;exact this
 ·rw[e]at this;exact(Int.dvd_neg).1 this
theorem wid_of{L:List (List Int)}{W N:Nat}(hl:L.length=N)(h:∀q,q<N->(L[q]?.getD []).length=W):∀r∈L,r.length=W:=by
 intro r hr
 obtain⟨q,hq,rfl⟩:=List.mem_iff_getElem.1 hr
 have:=h q (by omega)
 rw[List.getElem?_eq_getElem hq]at this
 exact this
theorem zJQ{L:List (List Int)}{W:Nat}(h:∀r∈L,r.length=W){q:Nat}(hq:q<L.length):(L[q]?.getD []).length=W:=by
 rw[List.getElem?_eq_getElem hq];exact h _ (List.getElem_mem hq)
theorem zGV{α:Type}{p:α->Bool}{l:List α}{a:Nat}(h:l.findIdx? p=some a):∃ha:a<l.length,p l[a]=true:=by
 obtain⟨ha,h1,_⟩:=List.findIdx?_eq_some_iff_getElem.1 h
 exact⟨ha,h1⟩
theorem pStep_inv{W N:Nat}{A0:Nat->Vec}{j:Nat}{L:List (List Int)}{J:List Nat}(h:RInv W N A0 j L J)(hA:∀q,-1<=A0 q j∧A0 q j<=1):
 RInv W N A0 (j+1) (zMN (L,J) j).1 (zMN (L,J) j).2:=by
 unfold zMN
 simp only[]
 have hlen:=h.len
 split
 ·rename_i hn
  refine h.skip fun q h1 h2=>?_
  rw[List.findIdx?_eq_none_iff]at hn
  have:=hn L[q] (by rw[List.mem_drop_iff_getElem];exact⟨q-J.length,by omega,by congr 1;omega⟩)
  rw[zGA (by omega)]
  simpa[nz]using this
 ·rename_i a ha
  obtain⟨ha1,ha2⟩:=zGV ha
  rw[List.length_drop]at ha1
  rw[List.getElem_drop]at ha2
  have hi:J.length+a<N:=by omega
  have hK:J.length<L.length:=by omega
  have hrow:∀q,(zGJ L J.length (J.length+a))[q]?.getD []=L[if q=J.length then J.length+a else if q=J.length+a then J.length else q]?.getD []:=zMB (by omega) (by omega)
  have hne:rowv L (J.length+a) j≠0:=by rw[zGA (by omega)];simpa[nz]using ha2
  have hsl:=zGM L J.length (J.length+a)
  have hp0:(zGJ L J.length (J.length+a))[J.length]?.getD []=L[J.length+a]?.getD []:=by rw[hrow,if_pos rfl]
  have hpv:(zCX (zGJ L J.length (J.length+a)) J.length j)[J.length]?.getD []=posF (L[J.length+a]?.getD []) j:=by
   rw[clearAll_at (by omega),hp0]
  have hpw:(posF (L[J.length+a]?.getD []) j).length=W:=by rw[zIQ];exact zJQ h.wid (by omega)
  have hoth:∀q,q<N->q≠J.length->(zCX (zGJ L J.length (J.length+a)) J.length j)[q]?.getD []=zFF (posF (L[J.length+a]?.getD []) j) J.length j q (L[if q=J.length then J.length+a else if q=J.length+a then J.length else q]?.getD []):=by
   intro q hq hn
   rw[clearAll_ne (by omega) hn,hp0,hrow]
  have hpib:∀q,q<N->(if q=J.length then J.length+a else if q=J.length+a then J.length else q)<N:=by
   intro q hq;split
   ·omega
   ·split<;>omega
  refine RInv.step (pi:=fun q=>if q=J.length then J.length+a else if q=J.length+a then J.length else q) h (i:=J.length+a) (by omega) hi hne ?_ (by rw[zGZ,hsl,hlen]) ?_ (fun q hq=>?_) ?_ (fun q h1 h2=>?_) (fun m hm=>?_) ?_ ?_ (fun q hq hn=>?_)
  ·rcases h.pr _ hi with h1|h1|⟨q0,h1⟩
   ·exact h1
   ·exact absurd (h1 j) hne
   ·have: -1<=rowv L (J.length+a) j∧rowv L (J.length+a) j<=1:=by rw[h1];exact hA q0
    exact unit_prim this hne
  ·refine wid_of (N:=N) (by rw[zGZ,hsl,hlen]) fun q hq=>?_
   by_cases e:q=J.length
   ·subst e;rw[hpv];exact hpw
   ·rw[hoth q hq e]
    have:=zJQ h.wid (q:=if q=J.length then J.length+a else if q=J.length+a then J.length else q) (by rw[hlen];exact hpib q hq)
    generalize L[if q=J.length then J.length+a else if q=J.length+a then J.length else q]?.getD []=row at this
    unfold zFF
    split
    ·rw[zON (by omega)];exact this
    ·exact this
  ·rw[if_neg (by omega),if_neg (by omega)]
  ·simp
  ·split
   ·omega
   ·split<;>omega
  ·refine⟨if m=J.length then J.length+a else if m=J.length+a then J.length else m,hpib m hm,?_⟩
   by_cases e1:m=J.length
   ·subst e1
    rw[if_pos rfl]
    by_cases e3:J.length+a=J.length
    ·rw[if_pos e3];exact e3
    ·rw[if_neg e3,if_pos rfl]
   ·rw[if_neg e1]
    by_cases e2:m=J.length+a
    ·rw[if_pos e2,if_pos rfl];exact e2.symm
    ·rw[if_neg e2,if_neg e1,if_neg e2]
  ·obtain⟨z,hz,e⟩:=zIP (L[J.length+a]?.getD []) j
   exact⟨z,hz,fun c=>by unfold rowv;rw[hpv];exact e c⟩
  ·unfold rowv;rw[hpv];exact zIO hne
  ·have hpos:0<vec (posF (L[J.length+a]?.getD []) j) j:=zIO hne
   obtain⟨z,hz,e⟩:=zIP (L[J.length+a]?.getD []) j
   simp only[]
   obtain⟨row,hr⟩:=exq (L[if q=J.length then J.length+a else if q=J.length+a then J.length else q]?.getD [])
   have hrw:row.length=W:=by rw[hr];exact zJQ h.wid (by rw[hlen];exact hpib q hq)
   unfold rowv
   rw[hoth q hq hn,<- hr]
   unfold zFF
   by_cases c0:vec row j≠0
   ·rw[if_pos ⟨hn,c0⟩]
    obtain⟨k1,x,y,g,_,hx,hg,e2⟩:=clearF_mul (row:=row) (by':=posF (L[J.length+a]?.getD []) j) (by omega) hpos
    refine⟨k1,?_,x,y*z,g,hx,hg,fun c=>?_⟩
    ·rcases clearF_prim row (posF (L[J.length+a]?.getD []) j) j with h1|h1
     ·exact .inl h1
     ·exact .inr (.inl h1)
    ·rw[e2 c,e c];grind
   ·rw[if_neg (fun h=>c0 h.2)]
    refine⟨by omega,.inr (.inr fun c=>rfl),1,0,1,by decide,by decide,fun c=>by simp⟩
theorem zCK{W:Nat}(L:List (List Int))(hw:∀r∈L,r.length=W):∀n,(∀j,j<n->∀q,-1<=rowv L q j∧rowv L q j<=1)->RInv W L.length (rowv L) n (pRed L n).1 (pRed L n).2
 |0,_=>RInv.start L hw
 |n+1,h=>by
  rw[zIS]
  exact pStep_inv (zCK L hw n (fun j hj=>h j (by omega))) (h n (by omega))
def zDM(l:List Int):List Int:=l.map (fun x=>x.tdiv (max (gcdL l) 1))
theorem zHF(l:List Int):zDM l=zBW l:=by
 unfold zDM zBW
 by_cases h:1<gcdL l
 ·rw[if_pos h,show max (gcdL l) 1=gcdL l by omega]
 ·rw[if_neg h,show max (gcdL l) 1=1 by omega];simp
def zBF(p:List Int)(j:Nat)(r:List Int):List Int:=zDM (List.zipWith (fun x y=>x*vec p j-y*vec r j) r p)
def zEV{α:Type}(p:α->Bool):List α->Option Nat
 | []=>none
 |x::l=>match zEV p l with|some i=>some (i+1)|none=>if p x then some 0 else none
theorem zMW{α:Type}{p:α->Bool}:∀{l:List α},zEV p l=none->∀x∈l,p x=false
 | [],_,x,hx=>by simp at hx
 |y::l,h,x,hx=>by
  unfold zEV at h
  split at h
  ·cases h
  ·rename_i h1
   rcases List.mem_cons.1 hx with rfl|hx
   ·cases hp:p x
    ·rfl
    ·rw[if_pos hp]at h;cases h
   ·exact zMW h1 x hx
theorem zGD{α:Type}{p:α->Bool}:∀{l:List α} {a:Nat},zEV p l=some a->∃ha:a<l.length,p l[a]=true
 |y::l,a,h=>by
  unfold zEV at h
  split at h
  ·rename_i i h1
   obtain⟨h2,h3⟩:=zGD h1
   cases h
   exact⟨by simp;omega,by simpa using h3⟩
  ·by_cases hp:p y=true
   ·rw[if_pos hp]at h;cases h;exact⟨by simp,by simpa using hp⟩
   ·rw[if_neg hp]at h;cases h
theorem zMV{α:Type}(p:α->Bool)(y:α):∀l:List α,zEV p (l++[y])=if p y=true then some l.length else zEV p l
 | []=>by simp[zEV]
 |x::l=>by
  show(match zEV p (l++[y])with|some i=>some (i+1)|none=>if p x then some 0 else none)=_
  rw[zMV p y l]
  by_cases h:p y=true
  ·rw[if_pos h,if_pos h];simp
  ·rw[if_neg h,if_neg h];rfl
structure RS where
 left:List (List Int)
 done:List (List Int)
 piv:List Nat
def zMH(s:RS)(j:Nat):RS:=
 match zEV (nz j) s.left with
 |none=>s
 |some a=>⟨(s.left.eraseIdx a).map (zBF (posF (s.left[a]?.getD []) j) j),s.done.map (zBF (posF (s.left[a]?.getD []) j) j)++[posF (s.left[a]?.getD []) j],s.piv++[j]⟩
def rRed(L:List (List Int))(n:Nat):RS:=(List.range n).foldl zMH ⟨L.map zDM,[],[]⟩
theorem zIL(L:List (List Int))(n:Nat):rRed L (n+1)=zMH (rRed L n) n:=by
 unfold rRed;rw[List.range_succ,List.foldl_append];rfl
theorem zGK{r p:List Int}(h:r.length=p.length)(j:Nat):(zBF p j r).length=r.length:=by unfold zBF zDM;simp;omega
theorem withoutF_mul{r p:List Int}(h:r.length=p.length){j:Nat}(hb:0<vec p j):
 vec (zBF p j r) j=0∧(Prim (vec (zBF p j r))∨∀c,vec (zBF p j r) c=0)∧∃x y g:Int,0<x∧0<g∧∀c,g*vec (zBF p j r) c=x*vec r c+y*vec p c:=by
 unfold zBF
 rw[zHF]
 obtain⟨g,hg,e⟩:=zCB (List.zipWith (fun x y=>x*vec p j-y*vec r j) r p)
 have e':∀c,g*vec (zBW (List.zipWith (fun x y=>x*vec p j-y*vec r j) r p)) c=vec r c*vec p j-vec p c*vec r j:=by
  intro c;rw[e c,vec_zip (by simp) h]
 refine⟨zAV (g:=g) (by omega) (by rw[e' j];grind),zDR _,vec p j,-vec r j,g,hb,hg,fun c=>by rw[e' c];grind⟩
def RI(W N:Nat)(A0:Nat->Vec)(j:Nat)(s:RS):Prop:=RInv W N A0 j (s.done++s.left) s.piv∧s.done.length=s.piv.length
theorem rStep_inv{W N:Nat}{A0:Nat->Vec}{j:Nat}{s:RS}(h0:RI W N A0 j s)(hA:∀q,Prim (A0 q)∨∀c,A0 q c=0):RI W N A0 (j+1) (zMH s j):=by
 obtain⟨h,hd⟩:=h0
 obtain⟨left,done,J⟩:=s
 simp only[]at h hd
 unfold zMH
 simp only[]
 have hlen:=h.len
 rw[List.length_append]at hlen
 have hget:∀i,i<left.length->(done++left)[J.length+i]?.getD []=left[i]?.getD []:=fun i hi=>by
  rw[List.getElem?_append_right (by omega),hd];congr 2;omega
 split
 ·rename_i hn
  refine⟨h.skip fun q h1 h2=>?_,hd⟩
  have h3:=zMW hn (left[q-J.length]'(by omega)) (List.getElem_mem _)
  have h4:=hget (q-J.length) (by omega)
  rw[show J.length+(q-J.length)=q by omega,List.getElem?_eq_getElem (l:=left) (i:=q-J.length) (by omega)]at h4
  unfold rowv
  rw[h4]
  simpa[nz]using h3
 ·rename_i a ha
  obtain⟨ha1,ha2⟩:=zGD ha
  obtain⟨p,hp⟩:=exq (posF (left[a]?.getD []) j)
  rw[<- hp]
  have hrow:(done++left)[J.length+a]?.getD []=left[a]?.getD []:=hget a ha1
  have hne:rowv (done++left) (J.length+a) j≠0:=by
   unfold rowv;rw[hrow,List.getElem?_eq_getElem ha1];simpa[nz]using ha2
  have hne':vec (left[a]?.getD []) j≠0:=by rw[<- hrow];exact hne
  have hpw:p.length=W:=by
   rw[hp,zIQ,<- hrow];exact zJQ h.wid (by rw[List.length_append];omega)
  obtain⟨z,hz,ez⟩:=zIP (left[a]?.getD []) j
  have hpos:0<vec p j:=by rw[hp];exact zIO hne'
  have hel:(left.eraseIdx a).length+1=left.length:=by rw[List.length_eraseIdx];simp[ha1];omega
  have hL':(done.map (zBF p j)++[p]++(left.eraseIdx a).map (zBF p j)).length=N:=by simp;omega
  -- the new rows
  have hat:(done.map (zBF p j)++[p]++(left.eraseIdx a).map (zBF p j))[J.length]?.getD []=p:=by
   rw[List.append_assoc,List.getElem?_append_right (by simp;omega)];simp[hd]
  have hoth:∀q,q<N->q≠J.length->(done.map (zBF p j)++[p]++(left.eraseIdx a).map (zBF p j))[q]?.getD []=zBF p j ((done++left)[if q<J.length then q else if q=J.length then J.length+a else if q<=J.length+a then q-1 else q]?.getD []):=by
   intro q hq hn
   rcases Nat.lt_or_ge q J.length with h1|h1
   ·rw[if_pos h1,List.append_assoc,List.getElem?_append_left (by simp;omega),List.getElem?_append_left (by omega),List.getElem?_map,List.getElem?_eq_getElem (by omega)]
    simp
   ·rw[if_neg (by omega),if_neg hn]
    have hq2:q-(J.length+1)<(left.eraseIdx a).length:=by omega
    rw[List.getElem?_append_right (by simp;omega)]
    simp only[List.length_append,List.length_map,List.length_singleton]
    rw[hd,List.getElem?_map,List.getElem?_eq_getElem hq2]
    simp only[Option.map_some,Option.getD_some]
    congr 1
    rw[List.getElem_eraseIdx]
    split
    ·rename_i h2
     rw[if_pos (by omega)]
     have:=hget (q-(J.length+1)) (by omega)
     rw[show J.length+(q-(J.length+1))=q-1 by omega]at this
     rw[this,List.getElem?_eq_getElem (by omega)];rfl
    ·rename_i h2
     rw[if_neg (by omega)]
     have:=hget (q-(J.length+1)+1) (by omega)
     rw[show J.length+(q-(J.length+1)+1)=q by omega]at this
     rw[this,List.getElem?_eq_getElem (by omega)];rfl
  have hpib:∀q,q<N->(if q<J.length then q else if q=J.length then J.length+a else if q<=J.length+a then q-1 else q)<N:=by
   intro q hq
   split
   ·omega
   ·split
    ·omega
    ·split<;>omega
  refine⟨RInv.step (pi:=fun q=>if q<J.length then q else if q=J.length then J.length+a else if q<=J.length+a then q-1 else q) h (i:=J.length+a) (by omega) (by omega) hne ?_ hL' ?_ (fun q hq=>?_) ?_ (fun q h1 h2=>?_) (fun m hm=>?_) ?_ ?_ (fun q hq hn=>?_),by simp[hd]⟩
  ·rcases h.pr (J.length+a) (by omega)with h1|h1|⟨q0,h1⟩
   ·exact h1
   ·exact absurd (h1 j) hne
   ·rcases hA q0 with h2|h2
    ·exact fun g hg=>h2 g fun c=>by rw[<- h1];exact hg c
    ·exact absurd (by rw[h1];exact h2 j) hne
  ·refine wid_of hL' fun q hq=>?_
   by_cases e:q=J.length
   ·subst e;rw[hat];exact hpw
   ·rw[hoth q hq e]
    have:=zJQ h.wid (q:=if q<J.length then q else if q=J.length then J.length+a else if q<=J.length+a then q-1 else q) (by rw[List.length_append];have:=hpib q hq;omega)
    rw[zGK (by omega)];exact this
  ·rw[if_pos hq]
  ·simp
  ·rw[if_neg (by omega),if_neg (by omega)]
   split<;>omega
  ·rcases Nat.lt_or_ge m J.length with h1|h1
   ·exact⟨m,hm,if_pos h1⟩
   ·by_cases e:m=J.length+a
    ·exact⟨J.length,by omega,by rw[if_neg (by omega),if_pos rfl];exact e.symm⟩
    ·rcases Nat.lt_or_ge m (J.length+a)with h2|h2
     ·exact⟨m+1,by omega,by rw[if_neg (by omega),if_neg (by omega),if_pos (by omega)];omega⟩
     ·exact⟨m,hm,by rw[if_neg (by omega),if_neg (by omega),if_neg (by omega)]⟩
  ·refine⟨z,hz,fun c=>?_⟩
   unfold rowv
   rw[hat,hrow,hp];exact ez c
  ·unfold rowv;rw[hat];exact hpos
  ·unfold rowv
   rw[hoth q hq hn]
   have hw:=zJQ h.wid (q:=if q<J.length then q else if q=J.length then J.length+a else if q<=J.length+a then q-1 else q) (by rw[List.length_append];have:=hpib q hq;omega)
   obtain⟨k1,k2,x,y,g,hx,hg,e⟩:=withoutF_mul (r:=(done++left)[if q<J.length then q else if q=J.length then J.length+a else if q<=J.length+a then q-1 else q]?.getD []) (p:=p) (by omega) hpos
   refine⟨k1,?_,x,y*z,g,hx,hg,fun c=>?_⟩
   ·rcases k2 with k2|k2
    ·exact .inl k2
    ·exact .inr (.inl k2)
   ·rw[e c,hrow,hp,ez c];grind
theorem rowv_prim(L:List (List Int))(q:Nat):Prim (rowv (L.map zDM) q)∨∀c,rowv (L.map zDM) q c=0:=by
 unfold rowv
 rw[List.getElem?_map]
 cases L[q]? with
 |none=>exact .inr fun c=>rfl
 |some r=>simp only[Option.map_some,Option.getD_some];rw[zHF];exact zDR r
theorem zEI{W:Nat}(L:List (List Int))(hw:∀r∈L,r.length=W):∀n,RI W L.length (rowv (L.map zDM)) n (rRed L n)
 |0=>by
  have:=RInv.start (W:=W) (L.map zDM) (fun r hr=>by
   obtain⟨r',hr',rfl⟩:=List.mem_map.1 hr
   unfold zDM;rw[List.length_map];exact hw r' hr')
  rw[List.length_map]at this
  exact⟨this,rfl⟩
 |n+1=>by
  rw[zIL]
  exact rStep_inv (zEI L hw n) (rowv_prim L)
theorem zNZ(L:List (List Int))(v:Vec):Sp (RB L.length (rowv (L.map zDM))) v↔Sp (RB L.length (rowv L)) v:=by
 have key:∀q,∃g:Int,0<g∧∀c,g*rowv (L.map zDM) q c=rowv L q c:=by
  intro q
  unfold rowv
  rw[List.getElem?_map]
  cases L[q]? with
  |none=>exact⟨1,by decide,fun c=>by simp[vec]⟩
  |some r=>simp only[Option.map_some,Option.getD_some];rw[zHF];exact zCB r
 constructor
 ·intro h
  refine h.trans ?_
  rintro u ⟨q,hq,rfl⟩
  obtain⟨g,hg,e⟩:=key q
  exact Sp.div (k:=g) (by omega) ((RB.sp hq).congr e)
 ·intro h
  refine h.trans ?_
  rintro u ⟨q,hq,rfl⟩
  obtain⟨g,hg,e⟩:=key q
  exact(Sp.mul g (RB.sp hq)).congr fun c=>(e c).symm
end
section
theorem zCC{L:List (List Int)}{c:Nat}{Y:Int}(h0:0<=Y)(h:∀r∈L,-Y<=vec r c∧vec r c<=Y)(q:Nat): -Y<=rowv L q c∧rowv L q c<=Y:=by
 unfold rowv
 cases hq:L[q]? with
 |none=>simp[vec];omega
 |some r=>exact h r (List.mem_of_getElem? hq)
theorem vec_le{r:List Int}{Y:Int}(h0:0<=Y)(h:∀x∈r,-Y<=x∧x<=Y)(c:Nat): -Y<=vec r c∧vec r c<=Y:=
 zED (P:=fun x=> -Y<=x∧x<=Y) (by omega) h c
theorem zFC(L:List (List Int)):∀n,(pRed L n).1.length=L.length
 |0=>rfl
 |n+1=>by
  rw[zIS]
  have:=zFC L n
  unfold zMN
  split
  ·exact this
  ·rw[zGZ,zGM];exact this
theorem pRed_le{W n Y:Nat}{L:List (List Int)}(hw:∀r∈L,r.length=W)(hN:L.length<=6)(h1:∀r∈L,∀c,c<n-> -1<=vec r c∧vec r c<=1)(hY:∀r∈L,∀x∈r,-(Y:Int)<=x∧x<=Y)
 {t:Nat}(ht:t<=n):∀r∈(pRed L t).1,r.length=W∧∀x∈r,-((720*Y:Nat):Int)<=x∧x<=((720*Y:Nat):Int):=by
 have h:=zCK L hw t (fun j hj q=>zCC (by decide) (fun r hr=>h1 r hr j (by omega)) q)
 intro r hr
 refine⟨h.wid r hr,?_⟩
 obtain⟨q,hq,rfl⟩:=List.mem_iff_getElem.1 hr
 refine zKC (P:=fun x=> -((720*Y:Nat):Int)<=x∧x<=((720*Y:Nat):Int)) fun c=>?_
 have hq':q<L.length:=by rw[<- zFC L t];exact hq
 have:=h.le hN (fun x hx r=>zCC (by decide) (fun r hr=>h1 r hr x (by have:=h.lt x hx;omega)) r) (c:=c) (Y:=Y) (fun r=>zCC (by omega) (fun r hr=>vec_le (by omega) (hY r hr) c) r) hq'
 rw[zGA hq]at this
 omega
theorem primF_le{r:List Int}{c:Nat}{Y:Int}(h: -Y<=vec r c∧vec r c<=Y): -Y<=vec (zDM r) c∧vec (zDM r) c<=Y:=by
 rw[zHF]
 obtain⟨g,hg,e⟩:=zCB r
 have:=e c
 rw[<- this]at h
 have h2:(vec (zBW r) c).natAbs<=(g*vec (zBW r) c).natAbs:=by rw[Int.natAbs_mul];exact Nat.le_mul_of_pos_left _ (by omega)
 omega
theorem primF_row{L:List (List Int)}{c:Nat}{Y:Int}(h:∀r∈L,-Y<=vec r c∧vec r c<=Y):∀r∈L.map zDM,-Y<=vec r c∧vec r c<=Y:=by
 intro r hr
 obtain⟨r',hr',rfl⟩:=List.mem_map.1 hr
 exact primF_le (h r' hr')
theorem rRed_len(L:List (List Int)){W:Nat}(hw:∀r∈L,r.length=W)(n:Nat):(rRed L n).done.length+(rRed L n).left.length=L.length:=by
 have:=(zEI L hw n).1.len
 rwa [List.length_append]at this
theorem rRed_le{W n Y:Nat}{L:List (List Int)}(hw:∀r∈L,r.length=W)(hN:L.length<=6)(h1:∀r∈L,∀c,c<n-> -1<=vec r c∧vec r c<=1)(hY:∀r∈L,∀x∈r,-(Y:Int)<=x∧x<=Y)
 {t:Nat}(ht:t<=n):∀r∈(rRed L t).done++(rRed L t).left,r.length=W∧∀x∈r,-((720*Y:Nat):Int)<=x∧x<=((720*Y:Nat):Int):=by
 have h:=(zEI L hw t).1
 intro r hr
 refine⟨h.wid r hr,?_⟩
 obtain⟨q,hq,rfl⟩:=List.mem_iff_getElem.1 hr
 refine zKC (P:=fun x=> -((720*Y:Nat):Int)<=x∧x<=((720*Y:Nat):Int)) fun c=>?_
 have hq':q<L.length:=by rw[<- h.len];exact hq
 have:=h.le hN (fun x hx r=>zCC (by decide) (primF_row fun r hr=>h1 r hr x (by have:=h.lt x hx;omega)) r) (c:=c) (Y:=Y) (fun r=>zCC (by omega) (primF_row fun r hr=>vec_le (by omega) (hY r hr) c) r) hq'
 rw[zGA hq]at this
 omega
theorem zHD{W:Nat}{L:List (List Int)}(hw:∀r∈L,r.length=W)(q:Nat){c:Nat}(hc:W<=c):rowv L q c=0:=by
 unfold rowv
 cases hq:L[q]? with
 |none=>simp[vec]
 |some r=>exact zFK (by rw[Option.getD_some,hw r (List.mem_of_getElem? hq)];exact hc)
theorem zOX{W n m:Nat}{L:List (List Int)}(hw:∀r∈L,r.length=W)(h1:∀r∈L,∀c,c<n-> -1<=vec r c∧vec r c<=1)(hm:W<=m)
 (h0:∀q,(pRed L n).2.length<=q->q<L.length->∀c,n<=c->c<W->rowv (pRed L n).1 q c=0):
 (pRed L n).2=(rRed L m).piv∧(rRed L m).done=(pRed L n).1.take (pRed L n).2.length:=by
 have h:=zCK L hw n (fun j hj q=>zCC (by decide) (fun r hr=>h1 r hr j hj) q)
 obtain⟨k,hk⟩:=zEI L hw m
 have hN:=h.K_le
 have hN':=k.K_le
 obtain⟨e1,e2⟩:=h.unique k (fun q h1 h2 c=>by
  rcases Nat.lt_or_ge c n with hc|hc
  ·exact h.zero q h1 h2 c hc
  ·rcases Nat.lt_or_ge c W with hc2|hc2
   ·exact h0 q h1 h2 c hc hc2
   ·exact zHD h.wid q hc2)
  (fun q h1 h2 c=>by
    rcases Nat.lt_or_ge c m with hc|hc
    ·exact k.zero q h1 h2 c hc
    ·exact zHD k.wid q (by omega))
  (fun v=>(zNZ L v).symm)
 refine⟨e1,List.ext_getElem? fun i=>?_⟩
 rw[e1]at e2⊢
 rcases Nat.lt_or_ge i (rRed L m).piv.length with hi|hi
 ·rw[List.getElem?_take_of_lt hi,e2 i hi,List.getElem?_append_left (by omega)]
 ·rw[List.getElem?_eq_none (by omega),List.getElem?_eq_none (by rw[List.length_take];omega)]
theorem red_more{W n m:Nat}{L:List (List Int)}(hw:∀r∈L,r.length=W)(h1:∀r∈L,∀c,c<n-> -1<=vec r c∧vec r c<=1)(hm:W<=m)
 {q:Nat}(hq1:(pRed L n).2.length<=q)(hq2:q<L.length)(hq3:rowv (pRed L n).1 q n≠0):n∈(rRed L m).piv:=by
 have h:=zCK L hw n (fun j hj q=>zCC (by decide) (fun r hr=>h1 r hr j hj) q)
 obtain⟨k,hk⟩:=zEI L hw m
 obtain⟨i,hi,e⟩:=(k.ech.pivot_iff n).2 ⟨rowv (pRed L n).1 q,(k.span (fun q h1 h2 c=>by
  rcases Nat.lt_or_ge c m with hc|hc
  ·exact k.zero q h1 h2 c hc
  ·exact zHD k.wid q (by omega))).2 ((zNZ L _).2 (h.sp1 q hq2)),hq3,h.zero q hq1 hq2⟩
 rw[<- e];unfold jf;rw[List.getElem?_eq_getElem hi];exact List.getElem_mem hi
def zFN(R:List (List Int))(f:Nat):List Nat->Nat->Int->Int
 | [],_,t=>t
 |p::J,k,t=>
  let x:=vec (R[k]?.getD []) p
  let n:=x.tdiv (Int.gcd x (vec (R[k]?.getD []) f):Nat)
  zFN R f J (k+1) (t*n.tdiv (Int.gcd t n:Nat))
def zES(R:List (List Int)):List Nat->Nat->Int->Int
 | [],_,t=>t
 |p::J,k,t=>
  let x:=vec (R[k]?.getD []) p
  zES R J (k+1) (t.tdiv (Int.gcd t x:Nat)*x)
end
section
theorem lcm_mul{t n:Int}(ht:0<t)(hn:0<n):t*n.tdiv (Int.gcd t n:Nat)=((Nat.lcm t.natAbs n.natAbs:Nat):Int):=by
 obtain⟨a,rfl⟩:∃a:Nat,t=a:=⟨t.toNat,by omega⟩
 obtain⟨b,rfl⟩:∃b:Nat,n=b:=⟨n.toNat,by omega⟩
 show(a:Int)*(b:Int).tdiv ((Nat.gcd a b:Nat):Int)=((Nat.lcm a b:Nat):Int)
 rw[<- Int.ofNat_tdiv,<- Int.natCast_mul]
 unfold Nat.lcm
 rw[Nat.mul_div_assoc _ (Nat.gcd_dvd_right _ _)]
theorem lcm_mul'{t n:Int}(ht:0<t)(hn:0<n):t.tdiv (Int.gcd t n:Nat)*n=((Nat.lcm t.natAbs n.natAbs:Nat):Int):=by
 obtain⟨a,rfl⟩:∃a:Nat,t=a:=⟨t.toNat,by omega⟩
 obtain⟨b,rfl⟩:∃b:Nat,n=b:=⟨n.toNat,by omega⟩
 show(a:Int).tdiv ((Nat.gcd a b:Nat):Int)*(b:Int)=((Nat.lcm a b:Nat):Int)
 rw[<- Int.ofNat_tdiv,<- Int.natCast_mul]
 unfold Nat.lcm
 rw[Nat.div_mul_right_comm (Nat.gcd_dvd_left _ _)]
theorem lcm_facts{t n d:Int}(ht:0<t)(hn:0<n)(htd:t∣d)(hnd:n∣d):
 0<((Nat.lcm t.natAbs n.natAbs:Nat):Int)∧((Nat.lcm t.natAbs n.natAbs:Nat):Int)∣d∧t∣((Nat.lcm t.natAbs n.natAbs:Nat):Int)∧n∣((Nat.lcm t.natAbs n.natAbs:Nat):Int):=by
 refine⟨?_,?_,?_,?_⟩
 ·have:=Nat.lcm_pos (m:=t.natAbs) (n:=n.natAbs) (by omega) (by omega);omega
 ·exact Int.ofNat_dvd_left.2 (Nat.lcm_dvd (Int.natAbs_dvd_natAbs.2 htd) (Int.natAbs_dvd_natAbs.2 hnd))
 ·exact Int.ofNat_dvd_right.2 (Nat.dvd_lcm_left _ _)
 ·exact Int.ofNat_dvd_right.2 (Nat.dvd_lcm_right _ _)
def nP(x e:Int):Int:=x.tdiv (Int.gcd x e:Nat)
theorem nP_facts{x e d:Int}(hx:0<x)(hd:x∣d):0<nP x e∧nP x e∣d∧∀t,nP x e∣t->x∣e*t:=by
 unfold nP
 obtain⟨g,hg⟩:∃g:Int,g=(Int.gcd x e:Nat):=⟨_,rfl⟩
 rw[<- hg]
 have hg0:0<g:=by
  rw[hg]
  have:0<Int.gcd x e:=Int.gcd_pos_of_ne_zero_left _ (by omega)
  omega
 have h1:g*x.tdiv g=x:=Int.mul_tdiv_cancel' (by rw[hg];exact Int.gcd_dvd_left ..)
 obtain⟨k,hk⟩:g∣e:=by rw[hg];exact Int.gcd_dvd_right ..
 obtain⟨m,hm⟩:=exq (x.tdiv g)
 rw[<- hm]at h1⊢
 refine⟨?_,?_,fun t ⟨q,hq⟩=>⟨k*q,?_⟩⟩
 ·rcases Int.lt_trichotomy m 0 with h|h|h
  ·have:=Int.mul_neg_of_pos_of_neg hg0 h;omega
  ·subst h;simp at h1;omega
  ·exact h
 ·exact Int.dvd_trans ⟨g,by rw[<- h1];grind⟩ hd
 ·rw[hq,hk,<- h1];grind
theorem zKT{R:List (List Int)}{f:Nat}{d:Int}:∀(J:List Nat) (k:Nat) (t:Int),0<t->t∣d->(∀i,i<J.length->0<vec (R[k+i]?.getD []) (jf J i)∧vec (R[k+i]?.getD []) (jf J i)∣d)->
 0<zFN R f J k t∧zFN R f J k t∣d∧t∣zFN R f J k t∧∀i,i<J.length->nP (vec (R[k+i]?.getD []) (jf J i)) (vec (R[k+i]?.getD []) f)∣zFN R f J k t
 | [],k,t,ht,htd,_=>⟨ht,htd,Int.dvd_refl _,fun i hi=>by simp at hi⟩
 |p::J,k,t,ht,htd,h=>by
  have h0:=h 0 (by simp)
  simp only[jf,Nat.add_zero,List.getElem?_cons_zero,Option.getD_some]at h0
  obtain⟨n1,n2,n3⟩:=nP_facts (e:=vec (R[k]?.getD []) f) h0.1 h0.2
  obtain⟨l1,l2,l3,l4⟩:=lcm_facts ht n1 htd n2
  rw[<- lcm_mul ht n1]at l1 l2 l3 l4
  obtain⟨a,b,c,e⟩:=zKT (R:=R) (f:=f) J (k+1) _ l1 l2 (fun i hi=>by
   have:=h (i+1) (by simp;omega)
   rw[show k+1+i=k+(i+1)by omega]
   simpa[jf]using this)
  refine⟨a,b,Int.dvd_trans l3 c,fun i hi=>?_⟩
  match i,hi with
  |0,_=>exact Int.dvd_trans l4 c
  |i+1,hi=>
   have:=e i (by simpa using hi)
   rw[show k+1+i=k+(i+1)by omega]at this
   have e2:jf (p::J) (i+1)=jf J i:=by simp[jf]
   rw[e2]
   exact this
theorem zKR{R:List (List Int)}{d:Int}:∀(J:List Nat) (k:Nat) (t:Int),0<t->t∣d->(∀i,i<J.length->0<vec (R[k+i]?.getD []) (jf J i)∧vec (R[k+i]?.getD []) (jf J i)∣d)->
 0<zES R J k t∧zES R J k t∣d∧t∣zES R J k t∧∀i,i<J.length->vec (R[k+i]?.getD []) (jf J i)∣zES R J k t
 | [],k,t,ht,htd,_=>⟨ht,htd,Int.dvd_refl _,fun i hi=>by simp at hi⟩
 |p::J,k,t,ht,htd,h=>by
  have h0:=h 0 (by simp)
  simp only[jf,Nat.add_zero,List.getElem?_cons_zero,Option.getD_some]at h0
  obtain⟨l1,l2,l3,l4⟩:=lcm_facts ht h0.1 htd h0.2
  rw[<- lcm_mul' ht h0.1]at l1 l2 l3 l4
  obtain⟨a,b,c,e⟩:=zKR (R:=R) J (k+1) _ l1 l2 (fun i hi=>by
   have:=h (i+1) (by simp;omega)
   rw[show k+1+i=k+(i+1)by omega]
   simpa[jf]using this)
  refine⟨a,b,Int.dvd_trans l3 c,fun i hi=>?_⟩
  match i,hi with
  |0,_=>exact Int.dvd_trans l4 c
  |i+1,hi=>
   have:=e i (by simpa using hi)
   rw[show k+1+i=k+(i+1)by omega]at this
   have e2:jf (p::J) (i+1)=jf J i:=by simp[jf]
   rw[e2]
   exact this
def zJE(v:Nat->Nat->Int):List Nat->Nat->List Int->List Int
 | [],_,h=>h
 |p::J,k,h=>zJE v J (k+1) (h.set p (v k p))
theorem zEW(v:Nat->Nat->Int):∀(J:List Nat) (k:Nat) (h:List Int),(zJE v J k h).length=h.length
 | [],_,_=>rfl
 |p::J,k,h=>by unfold zJE;rw[zEW v J];simp
theorem zNC(v:Nat->Nat->Int):∀(J:List Nat) (k:Nat) (h:List Int) (c:Nat),c∉J->vec (zJE v J k h) c=vec h c
 | [],_,_,_,_=>rfl
 |p::J,k,h,c,hc=>by
  unfold zJE
  rw[zNC v J (k+1) _ c (fun h=>hc (by simp[h]))]
  unfold vec
  rw[List.getElem?_set_ne (fun e=>hc (by simp[e]))]
theorem zPL(v:Nat->Nat->Int):∀(J:List Nat) (k:Nat) (h:List Int) (i:Nat),J.Nodup->i<J.length->jf J i<h.length->vec (zJE v J k h) (jf J i)=v (k+i) (jf J i)
 |p::J,k,h,0,hn,_,hl=>by
  simp only[jf,List.getElem?_cons_zero,Option.getD_some]at hl⊢
  unfold zJE
  rw[zNC v J (k+1) _ p (by simpa using (List.nodup_cons.1 hn).1)]
  unfold vec
  rw[List.getElem?_set_self hl];rfl
 |p::J,k,h,i+1,hn,hi,hl=>by
  have e:jf (p::J) (i+1)=jf J i:=by simp[jf]
  rw[e]at hl⊢
  unfold zJE
  rw[zPL v J (k+1) _ i (List.nodup_cons.1 hn).2 (by simpa using hi) (by simpa using hl),show k+1+i=k+(i+1)by omega]
def valP(R:List (List Int))(f:Nat)(t:Int)(k p:Nat):Int:=(-(vec (R[k]?.getD []) f)*t).tdiv (vec (R[k]?.getD []) p)
def valR(R:List (List Int))(f:Nat)(t:Int)(k p:Nat):Int:= -(vec (R[k]?.getD []) f)*t.tdiv (vec (R[k]?.getD []) p)
def rawP(R:List (List Int))(J:List Nat)(n f:Nat):List Int:=zJE (valP R f (zFN R f J 0 1)) J 0 ((List.replicate n 0).set f (zFN R f J 0 1))
def rawR(R:List (List Int))(J:List Nat)(n f:Nat):List Int:=zJE (valR R f (zES R J 0 1)) J 0 ((List.replicate n 0).set f (zES R J 0 1))
def kerP(R:List (List Int))(J:List Nat)(n f:Nat):List Int:=zBW (rawP R J n f)
def kerR(R:List (List Int))(J:List Nat)(n f:Nat):List Int:=zDM (rawR R J n f)
def zFJ(J:List Nat)(n:Nat):List Nat:=(List.range n).filter (fun f=>!J.contains f)
def zMX(R:List (List Int))(J:List Nat)(n:Nat):List (List Int):=(zFJ J n).map (kerP R J n)
def kernR(R:List (List Int))(J:List Nat)(n:Nat):List (List Int):=(zFJ J n).map (kerR R J n)
structure KOk (R:List (List Int)) (J:List Nat) (n:Nat) (d:Int):Prop where
 nodup:J.Nodup
 lt:∀x∈J,x<n
 piv:∀i,i<J.length->0<vec (R[i]?.getD []) (jf J i)∧vec (R[i]?.getD []) (jf J i)∣d
theorem raw_zero{v:Nat->Nat->Int}{J:List Nat}{n f c:Nat}{t:Int}(hc:c∉J)(hf:f<n):vec (zJE v J 0 ((List.replicate n 0).set f t)) c=if c=f then t else 0:=by
 rw[zNC _ _ _ _ _ hc]
 unfold vec
 by_cases e:c=f
 ·subst e;rw[if_pos rfl,List.getElem?_set_self (by simpa using hf)];rfl
 ·rw[if_neg e,List.getElem?_set_ne (Ne.symm e),List.getElem?_replicate];split<;>rfl
theorem mem_jf{J:List Nat}{c:Nat}(h:c∈J):∃i,i<J.length∧jf J i=c:=by
 obtain⟨i,hi,rfl⟩:=List.mem_iff_getElem.1 h
 exact⟨i,hi,by simp[jf,hi]⟩
theorem jf_mem{J:List Nat}{i:Nat}(h:i<J.length):jf J i∈J:=by simp[jf,h]
theorem rawP_vals{R:List (List Int)}{J:List Nat}{n f:Nat}{d:Int}(h:KOk R J n d)(hf:f<n)(hfJ:f∉J):0<zFN R f J 0 1∧zFN R f J 0 1∣d∧(rawP R J n f).length=n∧
 (∀c,c∉J->vec (rawP R J n f) c=if c=f then zFN R f J 0 1 else 0)∧∀i,i<J.length->vec (rawP R J n f) (jf J i)*vec (R[i]?.getD []) (jf J i)= -(vec (R[i]?.getD []) f)*zFN R f J 0 1:=by
 obtain⟨a,b,_,e⟩:=zKT (R:=R) (f:=f) (d:=d) J 0 1 (by decide) (Int.one_dvd d) (fun i hi=>by rw[Nat.zero_add];exact h.piv i hi)
 refine⟨a,b,by unfold rawP;rw[zEW];simp,fun c hc=>raw_zero hc hf,fun i hi=>?_⟩
 unfold rawP
 rw[zPL _ J 0 _ i h.nodup hi (by simpa using h.lt _ (jf_mem hi)),Nat.zero_add]
 have:=e i hi
 rw[Nat.zero_add]at this
 obtain⟨_,_,k⟩:=nP_facts (e:=vec (R[i]?.getD []) f) (h.piv i hi).1 (h.piv i hi).2
 have hd:=k _ this
 unfold valP
 exact Int.tdiv_mul_cancel (by obtain⟨q,hq⟩:=hd;exact⟨-q,by grind⟩)
theorem rawR_vals{R:List (List Int)}{J:List Nat}{n f:Nat}{d:Int}(h:KOk R J n d)(hf:f<n)(hfJ:f∉J):0<zES R J 0 1∧zES R J 0 1∣d∧(rawR R J n f).length=n∧
 (∀c,c∉J->vec (rawR R J n f) c=if c=f then zES R J 0 1 else 0)∧∀i,i<J.length->vec (rawR R J n f) (jf J i)*vec (R[i]?.getD []) (jf J i)= -(vec (R[i]?.getD []) f)*zES R J 0 1:=by
 obtain⟨a,b,_,e⟩:=zKR (R:=R) (d:=d) J 0 1 (by decide) (Int.one_dvd d) (fun i hi=>by rw[Nat.zero_add];exact h.piv i hi)
 refine⟨a,b,by unfold rawR;rw[zEW];simp,fun c hc=>raw_zero hc hf,fun i hi=>?_⟩
 unfold rawR
 rw[zPL _ J 0 _ i h.nodup hi (by simpa using h.lt _ (jf_mem hi)),Nat.zero_add]
 have:=e i hi
 rw[Nat.zero_add]at this
 unfold valR
 rw[Int.mul_assoc,Int.tdiv_mul_cancel this]
theorem short_pos{l:List Int}{c:Nat}(h:0<vec l c):0<vec (zBW l) c:=by
 obtain⟨g,hg,e⟩:=zCB l
 have:=e c
 rcases Int.lt_trichotomy (vec (zBW l) c) 0 with h1|h1|h1
 ·have:=Int.mul_neg_of_pos_of_neg hg h1;omega
 ·rw[h1]at this;omega
 ·exact h1
theorem short_eq{l m:List Int}{x y:Int}(hx:0<x)(hy:0<y)(hl:l.length=m.length)(h:∀c,x*vec l c=y*vec m c):zBW l=zBW m:=by
 refine List.ext_getElem (by rw[zDH,zDH,hl]) fun c c1 c2=>?_
 rw[<- zCY c1,<- zCY c2]
 obtain⟨g,hg,e⟩:=zCB l
 obtain⟨g',hg',e'⟩:=zCB m
 have h':∀c,(x*g)*vec (zBW l) c=(y*g')*vec (zBW m) c:=fun c=>by rw[Int.mul_assoc,e,Int.mul_assoc,e',h]
 have p1:=Int.mul_pos hx hg
 have p2:=Int.mul_pos hy hg'
 rcases zDR l with a|a
 ·rcases zDR m with b|b
  ·exact prim_eq p1 p2 h' a b c
  ·have h2:=h' c
   rw[b c,Int.mul_zero]at h2
   rw[b c]
   exact zAV (g:=x*g) (by omega) h2
 ·have h2:=h' c
  rw[a c,Int.mul_zero]at h2
  rw[a c]
  exact(zAV (g:=y*g') (by omega) h2.symm).symm
theorem ker_same{R:List (List Int)}{J:List Nat}{n f:Nat}{d:Int}(h:KOk R J n d)(hf:f<n)(hfJ:f∉J):kerP R J n f=kerR R J n f:=by
 obtain⟨a1,a2,a3,a4,a5⟩:=rawP_vals h hf hfJ
 obtain⟨b1,b2,b3,b4,b5⟩:=rawR_vals h hf hfJ
 unfold kerP kerR
 rw[zHF]
 refine short_eq b1 a1 (by omega) fun c=>?_
 by_cases hc:c∈J
 ·obtain⟨i,hi,rfl⟩:=mem_jf hc
  have h1:=a5 i hi
  have h2:=b5 i hi
  have h3:=(h.piv i hi).1
  refine Int.eq_of_mul_eq_mul_right (show vec (R[i]?.getD []) (jf J i)≠0 by omega) ?_
  rw[Int.mul_assoc,h1,Int.mul_assoc,h2];grind
 ·rw[a4 c hc,b4 c hc]
  split
  ·exact Int.mul_comm _ _
  ·simp
theorem kern_same{R:List (List Int)}{J:List Nat}{n:Nat}{d:Int}(h:KOk R J n d):zMX R J n=kernR R J n:=by
 unfold zMX kernR zFJ
 refine List.map_congr_left fun f hf=>?_
 obtain⟨h1,h2⟩:=List.mem_filter.1 hf
 exact ker_same h (by simpa using h1) (by simpa using h2)
theorem zKS{R R':List (List Int)}:∀(J:List Nat) (k:Nat) (t:Int),(∀i,i<J.length->R[k+i]? =R'[k+i]?)->zES R J k t=zES R' J k t
 | [],_,_,_=>rfl
 |p::J,k,t,h=>by
  unfold zES
  have:=h 0 (by simp)
  rw[Nat.add_zero]at this
  simp only[this]
  exact zKS J (k+1) _ (fun i hi=>by rw[show k+1+i=k+(i+1)by omega];exact h (i+1) (by simp;omega))
theorem zND{v v':Nat->Nat->Int}:∀(J:List Nat) (k:Nat) (h:List Int),(∀i,i<J.length->∀p,v (k+i) p=v' (k+i) p)->zJE v J k h=zJE v' J k h
 | [],_,_,_=>rfl
 |p::J,k,h,e=>by
  unfold zJE
  have:=e 0 (by simp) p
  rw[Nat.add_zero]at this
  rw[this]
  exact zND J (k+1) _ (fun i hi=>by rw[show k+1+i=k+(i+1)by omega];exact e (i+1) (by simp;omega))
theorem kernR_congr{R R':List (List Int)}{J:List Nat}(n:Nat)(h:∀i,i<J.length->R[i]? =R'[i]?):kernR R J n=kernR R' J n:=by
 unfold kernR
 refine List.map_congr_left fun f _=>?_
 unfold kerR rawR
 rw[zKS (R:=R) (R':=R') J 0 1 (fun i hi=>by rw[Nat.zero_add];exact h i hi)]
 rw[zND (v:=valR R f _) (v':=valR R' f (zES R' J 0 1)) J 0 _ (fun i hi p=>by unfold valR;rw[Nat.zero_add,h i hi])]
theorem pRed_ok{W n:Nat}{L:List (List Int)}(hw:∀r∈L,r.length=W)(hN:L.length<=6)(h1:∀r∈L,∀c,c<n-> -1<=vec r c∧vec r c<=1):
 ∃d:Nat,0<d∧d<=720∧KOk (pRed L n).1 (pRed L n).2 n d:=by
 have h:=zCK L hw n (fun j hj q=>zCC (by decide) (fun r hr=>h1 r hr j hj) q)
 obtain⟨d,d1,d2,d3⟩:=h.piv_dvd hN (fun x hx r=>zCC (by decide) (fun r hr=>h1 r hr x (h.lt x hx)) r)
 exact⟨d,d1,d2,h.asc.imp (fun h=>by omega),h.lt,fun i hi=>⟨(h.pp i hi).2,d3 i hi⟩⟩
theorem kernel_same{n:Nat}{L:List (List Int)}(hw:∀r∈L,r.length=n)(hN:L.length<=6)(h1:∀r∈L,∀c,c<n-> -1<=vec r c∧vec r c<=1):
 zMX (pRed L n).1 (pRed L n).2 n=kernR (rRed L n).done (rRed L n).piv n:=by
 obtain⟨d,_,_,hk⟩:=pRed_ok hw hN h1
 obtain⟨e1,e2⟩:=zOX hw h1 (Nat.le_refl n) (fun q _ _ c h1 h2=>by omega)
 rw[kern_same hk,<- e1,e2]
 exact kernR_congr n fun i hi=>(List.getElem?_take_of_lt hi).symm
end
end
section
open Go.RowKit
def BndL(B:Nat)(l:List Int):Prop:=∀x∈l,-(B:Int)<=x∧x<=B
theorem BndL.get{B:Nat}{l:List Int}(h:BndL B l){k:Nat}(hk:k<l.length): -(B:Int)<=l[k]?.getD 0∧l[k]?.getD 0<=B:=by
 rw[List.getElem?_eq_getElem hk];exact h _ (List.getElem_mem hk)
theorem gcdL_le{B:Nat}{l:List Int}(h:BndL B l):gcdL l<=B:=by
 by_cases h0:gcdL l=0
 ·omega
 ·obtain⟨x,hx,hx0⟩:∃x∈l,x≠0:=Classical.byContradiction fun hn=>h0 (by
   have hz:∀x∈l,(0:Int)∣x:=fun x hx=>by
    have:x=0:=Classical.byContradiction fun c=>hn ⟨x,hx,c⟩
    rw[this];exact Int.dvd_refl _
   exact Int.zero_dvd.1 (zPN hz))
  have h1:=zLP hx
  have h2:=h x hx
  have h3:gcdL l∣((x.natAbs:Nat):Int):=Int.dvd_natAbs.2 h1
  have:=Int.le_of_dvd (by omega) h3
  omega
theorem gcdL_take{l:List Int}{k:Nat}(hk:k<l.length):gcdL (l.take (k+1))=(Int.gcd (gcdL (l.take k)) (l[k]?.getD 0):Nat):=by
 rw[List.take_succ_eq_append_getElem hk,List.getElem?_eq_getElem hk]
 unfold gcdL
 rw[List.foldl_append];rfl
theorem BndL.take{B:Nat}{l:List Int}(h:BndL B l)(k:Nat):BndL B (l.take k):=fun x hx=>h x (List.mem_of_mem_take hx)
def zKG(f:Int->Int)(l:List Int)(k:Nat):List Int:=(l.take k).map f++l.drop k
theorem zOC(f:Int->Int)(l:List Int):zKG f l 0=l:=by simp[zKG]
theorem halfF_all(f:Int->Int)(l:List Int):zKG f l l.length=l.map f:=by simp[zKG]
theorem zJA(f:Int->Int)(l:List Int)(k:Nat):(zKG f l k).length=l.length:=by
 unfold zKG;simp;omega
theorem halfF_at(f:Int->Int){l:List Int}{k:Nat}(hk:k<l.length):(zKG f l k)[k]?.getD 0=l[k]?.getD 0:=by
 unfold zKG
 rw[List.getElem?_append_right (by simp;omega)]
 simp only[List.length_map,List.length_take,List.getElem?_drop]
 congr 2;omega
theorem halfF_set(f:Int->Int){l:List Int}{k:Nat}(hk:k<l.length):(zKG f l k).set k (f (l[k]?.getD 0))=zKG f l (k+1):=by
 unfold zKG
 have hl:((l.take k).map f).length=k:=by simp;omega
 rw[List.set_append_right _ _ (by omega),hl,Nat.sub_self,List.drop_eq_getElem_cons hk,List.take_succ_eq_append_getElem hk,List.getElem?_eq_getElem hk,List.set_cons_zero,List.map_append]
 simp
theorem zLI{x g B:Int}(hg:1<=g)(h: -B<=x∧x<=B): -B<=x.tdiv g∧x.tdiv g<=B:=by
 have h1:(x.tdiv g).natAbs<=x.natAbs:=by rw[Int.natAbs_tdiv];exact Nat.div_le_self _ _
 omega
theorem shortened_c(w:World)(b n cap:Nat)(l:List Int)(hn:l.length=n)(hm:n<=maxLen)(H:zBQ w b l)(hB:BndL 4611686018427387904 l):
 Calls Tryz.prog 223 #[.slice (some ⟨b,0,none⟩) n cap] w fun e w'=>e=.returned (.tuple #[])∧zBQ w' b (zBW l)∧Keep (fun k=>k≠b) w w':=by
 have HN:=hid hn
 have HH:=hid H
 have HBL:=hid hB
 have HGT:=hid (fun(k:Nat) (hk:k<l.length)=>gcdL_take hk)
 have HG0:=hid (fun k=>zGE (l.take k))
 have HGL:=hid (fun k=>gcdL_le (hB.take k))
 clear hn H hB
 unfold maxLen at hm
 go_enter Tryz.func223,Tryz.ntmps223
 go_wp2
 go_loopw [2,8] (fun g i wr=>∃k:Nat,k<=n∧i=.int .i64 k∧g=.int .i64 (gcdL (l.take k))∧∃q,wr=w.drewN q) (fun _ i _=>n-(intOf i).toNat)
 case atStart=>exact⟨0,Nat.zero_le _,rfl,rfl,0,rfl⟩
 case round=>
  obtain⟨k,hk,rfl,rfl,q,rfl⟩:=hrel
  by_cases hlt:k<n
  ·have hkl:k<l.length:=by rw[HN.out];exact hlt
   have hc:=HH.out.cell hkl
   have hbd:=HBL.out.get hkl
   have hg1:=HG0.out k
   have hg2:=HGL.out k
   have HE:=hid (HGT.out k hkl)
   obtain⟨x,hx⟩:=exq (l[k]?.getD 0)
   obtain⟨g,hg⟩:=exq (gcdL (l.take k))
   rw[<- hx]at hc hbd HE
   rw[<- hg]at hg1 hg2 HE⊢
   have HD:=hid (zJG (w.drewN q) g x (by omega) (by omega))
   clear hx hg hbd hg1 hg2 hkl
   go_wp2_with (go_at_call 206;refine HD.out.mono ?_;rintro e w1 ⟨rfl,q1,rfl⟩)
   exact⟨⟨k+1,by omega,by go_num,by rw[HE.out],q+q1,rfl⟩,by simp[intOf];omega⟩
  ·obtain rfl:k=n:=by omega
   have e:l.take k=l:=List.take_of_length_le (by rw[HN.out];exact Nat.le_refl _)
   rw[e]
   have hg1:=zGE l
   have hg2:=gcdL_le HBL.out
   obtain⟨g,hg⟩:=exq (gcdL l)
   rw[<- hg]at hg1 hg2⊢
   have HR:=hid (show zBQ (w.drewN q) b l from HH.out)
   have HK0:=hid (show Keep (fun k=>k≠b) w (w.drewN q)from(Keep.refl _ _).drewN q)
   have HGE:=hid hg
   clear e hg HG0 HGL HGT
   generalize w.drewN q=w1 at HR HK0⊢
   by_cases h1:1<g
   ·go_wp2
    go_loopw [18] (fun i wr=>∃t:Nat,t<=k∧i=.int .i64 t∧zBQ wr b (zKG (fun x=>x.tdiv g) l t)∧Keep (fun k=>k≠b) w1 wr) (fun i _=>k-(intOf i).toNat)
    case atStart=>exact⟨0,Nat.zero_le _,rfl,by rw[zOC];exact HR.out,Keep.refl _ _⟩
    case round=>
     obtain⟨t,ht,rfl,hr,hkp⟩:=hrel
     by_cases hlt2:t<k
     ·have htl:t<l.length:=by rw[HN.out];exact hlt2
      have hc:=hr.cell (j:=t) (by rw[zJA];exact htl)
      rw[halfF_at _ htl]at hc
      have hz:=hr.frozen t
      have hbd:=HBL.out.get htl
      have hst:=halfF_set (fun x=>x.tdiv g) htl
      have HSET:=hid (fun v=>hr.set t (by rw[zJA];exact htl) v)
      have hlt3:=hr.lt
      obtain⟨x,hx⟩:=exq (l[t]?.getD 0)
      rw[<- hx]at hc hbd hst
      have htd:=zLI (show 1<=g by omega) hbd
      have HST:=hid hst
      have HW:=hid (show IntKind.i64.wrap (x.tdiv g)=x.tdiv g from IntWalk.i64_in _ (by omega))
      have HKP:=hid hkp
      clear hx hst hr hkp htl
      go_wp2
      exact⟨⟨t+1,by omega,by go_num,by rw[<- HST.out];exact HSET.out _,HKP.out.trans (Keep.set wr b t _)⟩,by simp[intOf];omega⟩
     ·obtain rfl:t=k:=by omega
      go_wp2
      go_end0
      refine⟨rfl,?_,HK0.out.trans hkp⟩
      rw[<- HN.out,halfF_all]at hr
      unfold zBW
      rw[<- HGE.out,if_pos h1];exact hr
   ·go_wp2
    go_loopw [18] (fun i wr=>∃t:Nat,t<=k∧i=.int .i64 t∧zBQ wr b l∧Keep (fun k=>k≠b) w1 wr) (fun i _=>k-(intOf i).toNat)
    case atStart=>exact⟨0,Nat.zero_le _,rfl,HR.out,Keep.refl _ _⟩
    case round=>
     obtain⟨t,ht,rfl,hr,hkp⟩:=hrel
     by_cases hlt2:t<k
     ·go_wp2
      exact⟨⟨t+1,by omega,by go_num,hr,hkp⟩,by simp[intOf];omega⟩
     ·obtain rfl:t=k:=by omega
      go_wp2
      go_end0
      refine⟨rfl,?_,HK0.out.trans hkp⟩
      unfold zBW
      rw[<- HGE.out,if_neg (by omega)];exact hr
def mixF(f:Int->Int->Int)(l m:List Int)(k:Nat):List Int:=(List.zipWith f l m).take k++l.drop k
theorem mixF_zero(f:Int->Int->Int)(l m:List Int):mixF f l m 0=l:=by simp[mixF]
theorem mixF_len(f:Int->Int->Int){l m:List Int}(h:l.length=m.length)(k:Nat):(mixF f l m k).length=l.length:=by
 unfold mixF;simp;omega
theorem mixF_all(f:Int->Int->Int){l m:List Int}(h:l.length=m.length):mixF f l m l.length=List.zipWith f l m:=by
 unfold mixF
 rw[List.take_of_length_le (by simp;omega)];simp
theorem mixF_at(f:Int->Int->Int){l m:List Int}(h:l.length=m.length){k:Nat}(hk:k<l.length):(mixF f l m k)[k]?.getD 0=l[k]?.getD 0:=by
 unfold mixF
 rw[List.getElem?_append_right (by simp;omega)]
 simp only[List.length_take,List.length_zipWith,List.getElem?_drop]
 congr 2;omega
theorem mixF_set(f:Int->Int->Int){l m:List Int}(h:l.length=m.length){k:Nat}(hk:k<l.length):(mixF f l m k).set k (f (l[k]?.getD 0) (m[k]?.getD 0))=mixF f l m (k+1):=by
 unfold mixF
 have hl:((List.zipWith f l m).take k).length=k:=by simp;omega
 rw[List.set_append_right _ _ (by omega),hl,Nat.sub_self,List.drop_eq_getElem_cons hk,List.take_succ_eq_append_getElem (by simp;omega),List.getElem?_eq_getElem hk,List.getElem?_eq_getElem (by omega),List.set_cons_zero,List.getElem_zipWith]
 simp
theorem zGS{a b A B:Int}(h1: -A<=a∧a<=A)(h2: -B<=b∧b<=B): -(A*B)<=a*b∧a*b<=A*B:=zKO h1 h2
theorem cleared_c(w:World)(b n cap b2 cap2:Nat)(l m:List Int)(hn:l.length=n)(hn2:m.length=n)(hm:n<=maxLen)(H:zBQ w b l)(H2:zBQ w b2 m)(hne:b≠b2)(hB:BndL 1073741824 l)(hB2:BndL 1073741824 m)(j:Nat)(hj:j<n)(h0:vec m j≠0):
 Calls Tryz.prog 230 #[.slice (some ⟨b,0,none⟩) n cap,.slice (some ⟨b2,0,none⟩) n cap2,.int .i64 j] w fun e w'=>e=.returned (.tuple #[])∧zBQ w' b (zGH l m j)∧Keep (fun k=>k≠b) w w':=by
 have hlm:l.length=m.length:=by omega
 have c1:=H.cell (j:=j) (by omega)
 have c2:=H2.cell (j:=j) (by omega)
 have hb1:=hB.get (k:=j) (by omega)
 have hb2:=hB2.get (k:=j) (by omega)
 obtain⟨x,hx⟩:=exq (l[j]?.getD 0)
 obtain⟨y,hy⟩:=exq (m[j]?.getD 0)
 have hy0:y≠0:=by rw[hy];exact h0
 rw[<- hx]at c1 hb1
 rw[<- hy]at c2 hb2
 have HX:=hid (show vec l j=x from hx.symm)
 have HY:=hid (show vec m j=y from hy.symm)
 have HD:=hid (fun(W:World)=>zJG W x y (by omega) (by omega))
 obtain⟨g,hg⟩:∃g:Int,g=(Int.gcd x y:Nat):=⟨_,rfl⟩
 have hg0:0<g:=by
  rw[hg]
  have:0<Int.gcd x y:=Int.gcd_pos_of_ne_zero_right _ hy0
  omega
 rw[<- hg]at HD
 have HG:=hid hg
 have HLM:=hid hlm
 have HN:=hid hn
 have HH:=hid H
 have HH2:=hid H2
 have HBL:=hid hB
 have HBL2:=hid hB2
 have HNE:=hid hne
 have hj1:(0:Int)<=(j:Int):=by omega
 have hj2:(j:Int)<(n:Int):=by omega
 clear hx hy hg hn hn2 H H2 hB hB2 h0 hy0 hlm hne
 unfold maxLen at hm
 go_enter Tryz.func230,Tryz.ntmps230
 go_wp2
 go_quiet (fail)
 go_wp2_with (go_at_call 206;refine(HD.out _).mono ?_;rintro e w1 ⟨rfl,q1,rfl⟩)
 have HR:=hid (show zBQ (w.drewN (nq+q1)) b l from HH.out)
 have HR2:=hid (show zBQ (w.drewN (nq+q1)) b2 m from HH2.out)
 have HK0:=hid (show Keep (fun k=>k≠b) w (w.drewN (nq+q1))from(Keep.refl _ _).drewN _)
 generalize w.drewN (nq+q1)=w1 at HR HR2 HK0⊢
 clear HH HH2 HD c1 c2 hj1 hj2
 have ht1:=zLI (show 1<=g by omega) hb1
 have ht2:=zLI (show 1<=g by omega) hb2
 obtain⟨F,hF⟩:∃F:Int->Int->Int,F=fun u v=>u*y.tdiv g-v*x.tdiv g:=⟨_,rfl⟩
 have HF:=hid hF
 have wx:IntKind.i64.wrap (x.tdiv g)=x.tdiv g:=IntWalk.i64_in _ (by omega)
 have wy:IntKind.i64.wrap (y.tdiv g)=y.tdiv g:=IntWalk.i64_in _ (by omega)
 have HB1:=hid ht1
 have HB2:=hid ht2
 clear hF ht1 ht2 hb1 hb2
 go_wp2
 go_loopw [23] (fun i wr=>∃t:Nat,t<=n∧i=.int .i64 t∧zBQ wr b (mixF F l m t)∧Keep (fun k=>k≠b) w1 wr) (fun i _=>n-(intOf i).toNat)
 case atStart=>exact⟨0,Nat.zero_le _,rfl,by rw[mixF_zero];exact HR.out,Keep.refl _ _⟩
 case round=>
  obtain⟨t,ht,rfl,hr,hkp⟩:=hrel
  by_cases hlt:t<n
  ·have htl:t<l.length:=by rw[HN.out];exact hlt
   have htm:t<m.length:=by rw[<- HLM.out];exact htl
   have c1:=hr.cell (j:=t) (by rw[mixF_len _ HLM.out];exact htl)
   rw[mixF_at _ HLM.out htl]at c1
   have hr2:zBQ wr b2 m:=HR2.out.keep (hkp.block b2 HR2.out.lt (Ne.symm HNE.out))
   have c2:=hr2.cell htm
   have hz:=hr.frozen t
   have hb1:=HBL.out.get htl
   have hb2:=HBL2.out.get htm
   have hst:=mixF_set F HLM.out htl
   have HSET:=hid (fun(W:World) (hW:W.heap[b]? =wr.heap[b]?) v=>(hr.keep hW).set t (by rw[mixF_len _ HLM.out];exact htl) v)
   have hlt3:=hr.lt
   obtain⟨u,hu⟩:=exq (l[t]?.getD 0)
   obtain⟨v,hv⟩:=exq (m[t]?.getD 0)
   rw[<- hu]at c1 hb1 hst
   rw[<- hv]at c2 hb2 hst
   have p1:=zGS hb1 HB2.out
   have p2:=zGS hb2 HB1.out
   have w1':IntKind.i64.wrap (u*y.tdiv g)=u*y.tdiv g:=IntWalk.i64_in _ (by omega)
   have w2':IntKind.i64.wrap (v*x.tdiv g)=v*x.tdiv g:=IntWalk.i64_in _ (by omega)
   have w3':IntKind.i64.wrap (u*y.tdiv g-v*x.tdiv g)=u*y.tdiv g-v*x.tdiv g:=IntWalk.i64_in _ (by omega)
   have HST:=hid (show(mixF F l m t).set t (u*y.tdiv g-v*x.tdiv g)=mixF F l m (t+1)by rw[<- hst,HF.out])
   have HKP:=hid hkp
   have ht1:(0:Int)<=(t:Int):=by omega
   have ht2:(t:Int)<(n:Int):=by omega
   clear hu hv hst hr hr2 hkp htl htm hb1 hb2 p1 p2
   go_wp2
   have hgz:¬(g=0):=by omega
   go_still_tail 20,(by kernel_rfl)
   change wpList _ _ _ _ _ wr.drew
   go_wp2
   refine⟨⟨t+1,by omega,by go_num,?_,(HKP.out.drewN 1).trans (Keep.set wr.drew b t _)⟩,by simp[intOf];omega⟩
   rw[<- HST.out]
   exact HSET.out wr.drew rfl _
  ·obtain rfl:t=n:=by omega
   rw[<- HN.out,mixF_all _ HLM.out]at hr
   have hzl:(List.zipWith F l m).length=t:=by simp;have:=HLM.out;have:=HN.out;omega
   have hbz:BndL 4611686018427387904 (List.zipWith F l m):=by
    intro z hz
    obtain⟨i,hi,rfl⟩:=List.mem_iff_getElem.1 hz
    have hil:i<l.length:=by have:=HN.out;omega
    have him:i<m.length:=by have:=HLM.out;omega
    have hb1:=HBL.out _ (List.getElem_mem hil)
    have hb2:=HBL2.out _ (List.getElem_mem him)
    have hFe:F l[i] m[i]=l[i]*y.tdiv g-m[i]*x.tdiv g:=by have:=HF.out;rw[this]
    have p1:=zGS hb1 HB2.out
    have p2:=zGS hb2 HB1.out
    rw[List.getElem_zipWith,hFe]
    omega
   have HS:=hid (shortened_c wr b t cap (List.zipWith F l m) hzl (by unfold maxLen;omega) hr hbz)
   have HKP:=hid hkp
   clear hr hzl hbz hkp
   go_wp2_with (go_at_call 223;refine HS.out.mono ?_;rintro e w3 ⟨rfl,hs3,hk3⟩)
   go_end0
   refine⟨rfl,?_,(HK0.out.trans HKP.out).trans hk3⟩
   have e:zGH l m j=zBW (List.zipWith F l m):=by
    unfold zGH
    simp only[]
    rw[HX.out,HY.out,<- HG.out,<- HF.out]
   rw[e];exact hs3
end
section
open Go.RowKit
def wAll(_:Nat):Bool:=true
theorem AnyT.takeD{P:Program}{md:Region.Mode}{ops:Array Oper}{Q:Exit->Act->World->Prop}{S:World->Prop}{i d:Nat}{oi:Oper}{v:Value}{fuel:Nat}{listed:Array Bool}{a:Act}{w:World}{Wf:Nat->Bool}(hi:ops[i]? =some oi)(hd:oi.dst=some d)
 (hs:Region.noSelect ops=true)(hf:Region.free md ops listed i=true)(hr:(Region.ready md ops listed).contains i=true)
 (hQ:∀c a w,Q (.panic c) (a.put (some d) v) w->Q (.panic c) a w)
 (hW:(List.range ops.size).all (fun j=>waits md ops i j||Wf j)=true)(hw:Region.wanted oi (yielded ops a.tmps)=true)(hy:∀w,S w->(execOp a.eval oi).run P w=.ok (.value v) w)(hS:S w)
 (h:AnyT P md ops Q (fun j w=>Wf j=true->S w) fuel (listed.setIfInBounds i true) (a.put (some d) v) w):AnyT P md ops Q (fun j w=>Wf j=true->S w) (fuel+1) listed a w:=
 AnyT.takeW hi hs hf hr (by rw[hd];exact hQ) hW hw hy hS (by rw[hd];exact h)
theorem AnyT.tD{P:Program}{md:Region.Mode}{ops:Array Oper}{Q:Exit->Act->World->Prop}{S:World->Prop}{i d:Nat}{oi:Oper}{v:Value}{fuel:Nat}{listed:Array Bool}{a:Act}{w:World}{Wf:Nat->Bool}(hi:ops[i]? =some oi)(hd:oi.dst=some d)(hy:∀w,S w->(execOp a.eval oi).run P w=.ok (.value v) w)(hS:S w)
 (h:AnyT P md ops Q (fun j w=>Wf j=true->S w) fuel (listed.setIfInBounds i true) (a.put (some d) v) w)
 (hs:Region.noSelect ops=true:=by kernel_rfl)(hf:Region.free md ops listed i=true:=by kernel_rfl)(hr:(Region.ready md ops listed).contains i=true:=by kernel_rfl)(hQ:∀c a w,Q (.panic c) (a.put (some d) v) w->Q (.panic c) a w:=by first|exact(fun _ _ _ h=>h)|exact(fun _ _ _ h=>absurd h.1 (by simp)))(hW:(List.range ops.size).all (fun j=>waits md ops i j||Wf j)=true:=by kernel_rfl)(hw:Region.wanted oi (yielded ops a.tmps)=true:=by rfl):AnyT P md ops Q (fun j w=>Wf j=true->S w) (fuel+1) listed a w:=
 AnyT.takeD hi hd hs hf hr hQ hW hw hy hS h
end
section
open Go.RowKit
section
variable {P:Program} {md:Region.Mode} {ops:Array Oper} {Q:Exit->Act->World->Prop} {S:World->Prop} {T:Nat->World->Prop}
theorem AnyT.firstU{i:Nat}{oi:Oper}{v:Value}(U:Nat->Prop)(hi:ops[i]? =some oi)(hsel:∀(j:Nat) (o:Oper) cs b,ops[j]? =some o->o.op≠.select cs b)
 (hQ:∀c a w,Q (.panic c) (a.put oi.dst v) w->Q (.panic c) a w)
 (hT:∀(j:Nat) oj,U j->ops[j]? =some oj->(∀e∈oj.after,Region.binds md e=true->e.on≠i)->∀w,T j w->S w)(hTi:∀w,S w->T i w):
 ∀(fuel:Nat) (listed:Array Bool) (a:Act) (w:World),(∀j,listed.getD j true=false->U j)->
  (∀j oj,ops[j]? =some oj->j≠i->listed.getD j true=false->(∀e∈oj.after,Region.binds md e=true->e.on≠i)->oi.apart ops oj=true)->
  i∈Region.ready md ops listed->YieldsIf P ops S oi v a->S w->
  AnyT P md ops Q T fuel (listed.setIfInBounds i true) (a.put oi.dst v) w->AnyT P md ops Q T (fuel+1) listed a w:=by
 intro fuel
 induction fuel with
 |zero=>
  intro listed a w _ _ hr hy hS H
  refine⟨fun h=>(by rw[h]at hr;cases hr),fun j hj=>?_⟩
  by_cases e:j=i
  ·subst e;exact hy.wpOp hi hS ⟨hTi w hS,H⟩
  ·have h0:=ready_mono hj e
   rw[H.1]at h0;cases h0
 |succ fuel ih=>
  intro listed a w hU hfree hr hy hS H
  refine⟨fun h=>(by rw[h]at hr;cases hr),fun j hj=>?_⟩
  by_cases e:j=i
  ·subst e;exact hy.wpOp hi hS ⟨hTi w hS,H⟩
  ·obtain⟨hun,oj,hoj,hall⟩:=mem_ready.1 hj
   have hnot:∀x∈oj.after,Region.binds md x=true->x.on≠i:=by
    intro x hx hb heq
    have h1:=hall x hx hb
    have h0:=(mem_ready.1 hr).1
    rw[heq]at h1
    rcases Nat.lt_or_ge i listed.size with hlt|hge
    ·simp[hlt]at h0 h1;rw[h0]at h1;cases h1
    ·simp[Array.getElem?_eq_none hge]at h1
   refine wpOp_mono (fun a' w' h3=>?_) (wpOp_putIf hoj (hfree j oj hoj e hun hnot) (fun cs b=>hsel i oi cs b hi) (fun cs b=>hsel j oj cs b hoj) hQ hy (H.2 j (ready_mono hj e)))
   have hS':=hT j oj (hU j hun) hoj hnot w' h3.2.1
   refine⟨h3.2.1,ih (listed.setIfInBounds j true) a' w' ?_ ?_ (ready_mono hr (fun h=>e h.symm)) h3.1 hS' ?_⟩
   ·intro k hk
    refine hU k ?_
    by_cases hjk:j=k
    ·subst hjk;exact hun
    ·rwa [getD_set_ne true hjk]at hk
   ·intro k ok hk hki hkun hno
    refine hfree k ok hk hki ?_ hno
    by_cases hjk:j=k
    ·subst hjk;exact hun
    ·rwa [getD_set_ne true hjk]at hkun
   ·rw[Array.setIfInBounds_comm _ _ e];exact h3.2.2
theorem AnyT.takeS{i d:Nat}{oi:Oper}{v:Value}{fuel:Nat}{listed:Array Bool}{a:Act}{w:World}{Wf:Nat->Bool}(hi:ops[i]? =some oi)(hd:oi.dst=some d)
 (hs:Region.noSelect ops=true)(hf:Region.free md ops listed i=true)(hr:(Region.ready md ops listed).contains i=true)
 (hQ:∀c a w,Q (.panic c) (a.put (some d) v) w->Q (.panic c) a w)
 (hW:(List.range ops.size).all (fun j=>listed.getD j true||waits md ops i j||Wf j)=true)(hw:Region.wanted oi (yielded ops a.tmps)=true)(hy:∀w,S w->(execOp a.eval oi).run P w=.ok (.value v) w)(hS:S w)
 (h:AnyT P md ops Q (fun j w=>Wf j=true->S w) fuel (listed.setIfInBounds i true) (a.put (some d) v) w):AnyT P md ops Q (fun j w=>Wf j=true->S w) (fuel+1) listed a w:=
 AnyT.firstU (fun j=>listed.getD j true=false) hi (Region.noSelect_spec hs) (by rw[hd];exact hQ) (fun j oj hun hj hno w hT=>hT (by
  have hlt:j<ops.size:=(Array.getElem?_eq_some_iff.1 hj).1
  have h1:=List.all_eq_true.1 hW j (List.mem_range.2 hlt)
  rw[hun]at h1
  have h2:waits md ops i j=false:=by
   unfold waits;rw[hj]
   simp only[Array.any_eq_false]
   intro k hk
   have:=hno oj.after[k] (Array.getElem_mem hk)
   cases hb:Region.binds md oj.after[k]<;>simp[hb]at this⊢
   exact this
  rw[h2]at h1;simpa using h1)) (fun w hS _=>hS) fuel listed a w (fun _ h=>h) (Region.free_spec hi hf) (by simpa using hr) (.inl ⟨hw,hy⟩) hS (by rw[hd];exact h)
theorem AnyT.takeP{i d:Nat}{oi:Oper}{v:Value}{fuel:Nat}{listed:Array Bool}{a:Act}{w:World}{Wf:Nat->Bool}{S':World->Prop}(hi:ops[i]? =some oi)(hd:oi.dst=some d)(hWi:Wf i=false)
 (hs:Region.noSelect ops=true)(hf:Region.free md ops listed i=true)(hr:(Region.ready md ops listed).contains i=true)
 (hQ:∀c a w,Q (.panic c) (a.put (some d) v) w->Q (.panic c) a w)
 (hw:Region.wanted oi (yielded ops a.tmps)=true)(hy:∀w,(execOp a.eval oi).run P w=.ok (.value v) w)
 (h:AnyT P md ops Q (fun j w=>Wf j=true->S' w) fuel (listed.setIfInBounds i true) (a.put (some d) v) w):AnyT P md ops Q (fun j w=>Wf j=true->S' w) (fuel+1) listed a w:=
 AnyT.firstU (S:=fun _=>True) (fun _=>True) hi (Region.noSelect_spec hs) (by rw[hd];exact hQ) (fun _ _ _ _ _ _ _=>trivial) (fun w _ h=>by rw[hWi]at h;cases h) fuel listed a w (fun _ _=>trivial)
  (Region.free_spec hi hf) (by simpa using hr) (.inl ⟨hw,fun w _=>hy w⟩) trivial (by rw[hd];exact h)
end
def w2(x y j:Nat):Bool:=decide (j=x)||decide (j=y)
end
end Go.Proofs.YtlffndehhhpgjaaGreat
