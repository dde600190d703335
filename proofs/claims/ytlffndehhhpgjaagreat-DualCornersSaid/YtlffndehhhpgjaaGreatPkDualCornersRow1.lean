/- Walks and plain laws for DualCornersRow, part 1. -/
import Derived.Test.YtlffndehhhpgjaaGreatRows
import Derived.WalkKit
import Derived.BigQuiet
import Derived.Deep.QuietTactic
import Derived.Shelf.Abstract
import Derived.Deep.OwnRows
import Derived.RangeFuncNested
import Derived.RangeFuncBound
import Derived.RangeFuncCalls
import Derived.RangeFuncLeaves
import Derived.Shelf.RegionOpen
import Derived.OwnWalkIn
import Derived.TacticsInMore
import Derived.LoopNIn
import Derived.LoopIn
import Derived.Laws.EntriesVeiled
import Derived.Laws.AppendOwnNone
import Derived.IntWalk
import Derived.Deep.RegionHeld3
namespace Go.Proofs.YtlffndehhhpgjaaGreat
set_option linter.unusedVariables false
set_option linter.unusedSimpArgs false
set_option maxRecDepth 100000
set_option maxHeartbeats 4000000
section
theorem exq{α:Sort _}(a:α):∃x,x=a:=⟨a,rfl⟩
end
section
open Go.RowKit
def Stop(P:Prop):Prop:=P
theorem Stop.of{P:Prop}(h:Stop P):P:=h
theorem Stop.go{P:Prop}(h:P):Stop P:=h
theorem hid{p:Prop}(h:p):Hid p:=h
def zAI(w:World)(a:Option Addr)(l:List Int):Prop:=
 ∀j,j<l.length->∃b off,a=some ⟨b,off,none⟩∧b<w.heap.size∧w.cell? ⟨b,off+j,none⟩=some (.int .i64 (l[j]?.getD 0))
theorem zAI.below{w w':World}{a:Option Addr}{l:List Int}(h:zAI w a l)(hb:Below w.heap.size w w'):zAI w' a l:=by
 intro j hj
 obtain⟨b,off,e,hlt,hc⟩:=h j hj
 exact⟨b,off,e,Nat.lt_of_lt_of_le hlt hb.size,(hb.cell (p:=⟨b,off+j,none⟩) hlt).trans hc⟩
theorem zAA{a b c:World}(h:Below a.heap.size a b)(k:Below b.heap.size b c):Below a.heap.size a c:=h.trans (k.mono h.size)
theorem zAJ{B:Nat}{a w:World}(h:Below B a w)(n:Nat):Below B a (w.drewN n):=⟨h.os,h.tape,h.output,h.size,h.block⟩
theorem bcell{W w1:World}(hb:Below W.heap.size W w1):(∀b o,b<W.heap.size->w1.cell? ⟨b,o,none⟩=W.cell? ⟨b,o,none⟩)∧(∀b o,b<W.heap.size->w1.frozen? ⟨b,o,none⟩=W.frozen? ⟨b,o,none⟩):=
 ⟨fun b o h=>hb.cell (p:=⟨b,o,none⟩) h,fun b o h=>hb.frozen (p:=⟨b,o,none⟩) h⟩
theorem cast1(k:Nat):Value.int .i64 ((k:Int)+1)=Value.int .i64 ((k+1:Nat):Int):=by congr 1
theorem zDB{k:IntKind}{a b:Int}(h:a=b):Ending.returned (.int k a)=.returned (.int k b):=by rw[h]
theorem zAT{a b:Bool}(h:a=b):Ending.returned (.bool a)=.returned (.bool b):=by rw[h]
def idxP{α:Type}(p:α->Bool):List α->Nat->Int
 | [],_=> -1
 |x::l,k=>if p x then(k:Int)else idxP p l (k+1)
theorem zHI{α:Type}(p:α->Bool):∀(l:List α) (k:Nat),(∀x∈l,p x=false)->idxP p l k= -1
 | [],_,_=>rfl
 |x::l,k,h=>by
  unfold idxP
  rw[if_neg (by rw[h x (by simp)];simp),zHI p l (k+1) (fun y hy=>h y (by simp[hy]))]
theorem zKF{α:Type}(p:α->Bool):∀(l:List α) (k j:Nat) (x:α),l[j]? =some x->p x=true->(∀i y,i<j->l[i]? =some y->p y=false)->idxP p l k=((k+j:Nat):Int)
 | [],_,j,x,h,_,_=>by simp at h
 |y::l,k,0,x,h,hp,_=>by
  simp at h;subst h;unfold idxP;rw[if_pos hp];simp
 |y::l,k,j+1,x,h,hp,hn=>by
  have h0:=hn 0 y (by omega) rfl
  unfold idxP
  rw[if_neg (by rw[h0];simp),zKF p l (k+1) j x (by simpa using h) hp (fun i z hi hz=>hn (i+1) z (by omega) (by simpa using hz))]
  congr 1;omega
theorem zNA{α:Type}(p:α->Bool):∀(l:List α) (k:Nat),(0<=idxP p l k)=(l.any p=true)
 | [],k=>by simp[idxP]
 |x::l,k=>by
  unfold idxP
  by_cases h:p x=true
  ·simp[h]
  ·rw[if_neg h,zNA p l (k+1)];simp[h]
def PredI(P:Program)(g:Nat)(lb:Array Value)(w:World)(p:Int->Bool):Prop:=
 ∀(x:Int) (W:World),Below w.heap.size w W->Calls P g (#[.int .i64 x]++lb) W fun e W'=>e=.returned (.bool (p x))∧Below W.heap.size W W'
theorem getD_lt{l:List Int}{k:Nat}(h:k<l.length):l[k]? =some (l[k]?.getD 0):=by
 simp[List.getElem?_eq_getElem h]
structure Cel where
 row:List Int
 lo:Int
 hi:Int
def CelV(w:World)(v:Value)(c:Cel):Prop:=
 ∃ra n cap,v=.agg #[.slice ra n cap,.int .i64 c.lo,.int .i64 c.hi]∧c.row.length=n∧n<=maxLen∧zAI w ra c.row
theorem CelV.below{w w':World}{v:Value}{c:Cel}(h:CelV w v c)(hb:Below w.heap.size w w'):CelV w' v c:=by
 obtain⟨ra,n,cap,e,hn,hm,hi⟩:=h
 exact⟨ra,n,cap,e,hn,hm,hi.below hb⟩
def CellsAt(w:World)(a:Option Addr)(l:List Cel):Prop:=
 ∀j (hj:j<l.length),∃b off ra n cap,a=some ⟨b,off,none⟩∧b<w.heap.size∧
  w.cell? ⟨b,off+j*3,none⟩=some (.slice ra n cap)∧w.cell? ⟨b,off+j*3+1,none⟩=some (.int .i64 l[j].lo)∧w.cell? ⟨b,off+j*3+2,none⟩=some (.int .i64 l[j].hi)∧
  l[j].row.length=n∧n<=maxLen∧zAI w ra l[j].row
theorem CellsAt.below{w w':World}{a:Option Addr}{l:List Cel}(h:CellsAt w a l)(hb:Below w.heap.size w w'):CellsAt w' a l:=by
 intro j hj
 obtain⟨b,off,ra,n,cap,e,hlt,h0,h1,h2,hn,hm,hi⟩:=h j hj
 exact⟨b,off,ra,n,cap,e,Nat.lt_of_lt_of_le hlt hb.size,(hb.cell (p:=⟨b,_,none⟩) hlt).trans h0,(hb.cell (p:=⟨b,_,none⟩) hlt).trans h1,(hb.cell (p:=⟨b,_,none⟩) hlt).trans h2,hn,hm,hi.below hb⟩
end
section
open Go.RowKit
structure Keep (S:Nat->Prop) (A B:World):Prop where
 os:B.os=A.os
 tape:B.tape=A.tape
 output:B.output=A.output
 size:A.heap.size<=B.heap.size
 block:∀k,k<A.heap.size->S k->B.heap[k]? =A.heap[k]?
theorem Keep.refl(S:Nat->Prop)(A:World):Keep S A A:=⟨rfl,rfl,rfl,Nat.le_refl _,fun _ _ _=>rfl⟩
theorem Keep.trans{S:Nat->Prop}{A B C:World}(h:Keep S A B)(k:Keep S B C):Keep S A C:=
 ⟨k.os.trans h.os,k.tape.trans h.tape,k.output.trans h.output,Nat.le_trans h.size k.size,fun i hi hs=>(k.block i (Nat.lt_of_lt_of_le hi h.size) hs).trans (h.block i hi hs)⟩
theorem Keep.drewN{S:Nat->Prop}{A B:World}(h:Keep S A B)(n:Nat):Keep S A (B.drewN n):=⟨h.os,h.tape,h.output,h.size,h.block⟩
theorem Keep.mono{S T:Nat->Prop}{A B:World}(h:Keep S A B)(hs:∀k,T k->S k):Keep T A B:=⟨h.os,h.tape,h.output,h.size,fun k hk ht=>h.block k hk (hs k ht)⟩
theorem Keep.of_below{S:Nat->Prop}{A B:World}(h:Below A.heap.size A B):Keep S A B:=⟨h.os,h.tape,h.output,h.size,fun k hk _=>h.block k hk⟩
theorem Keep.grown{A B:World}{row:Option Nat}(h:A.grownBy B row):Keep (fun k=>some k≠row) A B:=⟨h.os,h.tape,h.output,h.size,fun k hk hs=>h.block k hk hs⟩
theorem Keep.put(A:World)(l:Nat)(o:Obj):Keep (fun k=>k≠l) A (A.putObj l o):=(Keep.grown (grownBy_putObj' A l o)).mono fun k hk e=>hk (by cases e;rfl)
theorem Keep.set(A:World)(b o:Nat)(v:Value):Keep (fun k=>k≠b) A (A.setCell ⟨b,o,none⟩ v):=
 ⟨rfl,rfl,rfl,by simp[World.setCell],fun k _ hs=>Below.heap_setCell _ _ _ _ hs⟩
theorem Keep.below{S:Nat->Prop}{A B w:World}{N:Nat}(h:Keep S A B)(hb:Below N w A)(hN:N<=A.heap.size)(hs:∀k,k<N->S k):Below N w B:=
 hb.trans ⟨h.os,h.tape,h.output,h.size,fun k hk=>h.block k (by omega) (hs k hk)⟩
theorem Keep.cell{S:Nat->Prop}{A B:World}(h:Keep S A B){b o:Nat}{v:Value}(hc:A.cell? ⟨b,o,none⟩=some v)(hs:S b):B.cell? ⟨b,o,none⟩=some v:=
 (World.cell?_of_block (a:=⟨b,o,none⟩) (h.block b (World.block_lt_of_cell? A ⟨b,o,none⟩ hc) hs)).trans hc
def zFX(w:World)(E:TypeId)(b:Nat)(l:List Int):Prop:=w.heap[b]? =some (.cells (l.map (Value.int .i64)).toArray E (0,0))
theorem zFX.lt{w:World}{E:TypeId}{b:Nat}{l:List Int}(h:zFX w E b l):b<w.heap.size:=(Array.getElem?_eq_some_iff.1 h).1
theorem zFX.cell{w:World}{E:TypeId}{b:Nat}{l:List Int}(h:zFX w E b l){j:Nat}(hj:j<l.length):w.cell? ⟨b,j,none⟩=some (.int .i64 (l[j]?.getD 0)):=by
 simp[World.cell?,show w.heap[b]? =_ from h,hj]
theorem zFX.keep{w w':World}{E:TypeId}{b:Nat}{l:List Int}(h:zFX w E b l)(hk:w'.heap[b]? =w.heap[b]?):zFX w' E b l:=hk.trans h
theorem zFX.set{w:World}{E:TypeId}{b:Nat}{l:List Int}(h:zFX w E b l)(j:Nat)(n:Int):zFX (w.setCell ⟨b,j,none⟩ (.int .i64 n)) E b (l.set j n):=by
 obtain⟨hlt,hk⟩:=Array.getElem?_eq_some_iff.1 h
 unfold zFX
 show(w.heap.modify b _)[b]? =_
 rw[Array.getElem?_eq_getElem (by rw[Array.size_modify];exact hlt),Array.getElem_modify_self,hk]
 simp[List.map_set]
theorem zFX.ints{w:World}{E:TypeId}{b:Nat}{l:List Int}(h:zFX w E b l):zAI w (some ⟨b,0,none⟩) l:=
 fun j hj=>⟨b,0,rfl,h.lt,by rw[Nat.zero_add];exact h.cell hj⟩
def IterInts(P:Program)(E:TypeId)(g:Nat)(lb:Array Value)(xs:List (List Int))(fp:Nat->Prop)(w0:World):Prop:=
 ∀(l:Nat) (J:Nat->List (List Int)->World->Prop) (Jx:List (List Int)->World->Prop) (W:World),Below w0.heap.size w0 W->
  (∀it s A B,W.heap.size<=it->J it s A->Keep (fun k=>k≠it) A B->J it s B)->
  (∀it pre x cap sp W1,pre++[x] <+: xs->W.heap.size<=it->it<W1.heap.size->J it pre W1->W1.heap[it]? =some (.cells (x.map (Value.int .i64)++sp).toArray E (0,0))->
    YieldAt Fence.wide 0 P l #[.slice (some ⟨it,0,none⟩) x.length cap] W1 fun e W'=>
     (e=.returned (.bool true)∧J it (pre++[x]) W'∧W1.heap.size<=W'.heap.size∧(∀k,fp k∨k=it->W'.heap[k]? =W1.heap[k]?))∨(e=.returned (.bool false)∧Jx (pre++[x]) W'))->
  (∀it,W.heap.size<=it->J it [] W)->
  CallsIn Fence.wide 0 P g (#[.func (.yield l) #[] #[]]++lb) W fun e W'=>(∃v,e=.returned v)∧((∃it,W.heap.size<=it∧J it xs W')∨(∃pre,pre <+: xs∧Jx pre W'))
end
section
open Go.RowKit
def zAN(w:World)(a:Option Addr)(ls:List (List Int)):Prop:=
 ∀j (hj:j<ls.length),∃b off ra n cap,a=some ⟨b,off,none⟩∧b<w.heap.size∧w.cell? ⟨b,off+j,none⟩=some (.slice ra n cap)∧ls[j].length=n∧n<=maxLen∧zAI w ra ls[j]
theorem zAN.below{w w':World}{a:Option Addr}{l:List (List Int)}(h:zAN w a l)(hb:Below w.heap.size w w'):zAN w' a l:=by
 intro j hj
 obtain⟨b,off,ra,n,cap,e,hlt,h0,hn,hm,hi⟩:=h j hj
 exact⟨b,off,ra,n,cap,e,Nat.lt_of_lt_of_le hlt hb.size,(hb.cell (p:=⟨b,_,none⟩) hlt).trans h0,hn,hm,hi.below hb⟩
def zEO(E:TypeId)(W:World)(base:Nat)(S:Nat->Prop)(v:Value)(l:List Int):Prop:=
 ∃a n cap,v=.slice a n cap∧l.length=n∧n<=maxLen∧∀j,j<l.length->∃b off,a=some ⟨b,off,none⟩∧S b∧b<W.heap.size∧
  (b<base∨∃c f,W.heap[b]? =some (.cells c E f))∧W.cell? ⟨b,off+j,none⟩=some (.int .i64 (l[j]?.getD 0))
theorem zEO.keep{E:TypeId}{W W':World}{base:Nat}{S T:Nat->Prop}{v:Value}{l:List Int}(h:zEO E W base S v l)(hk:Keep T W W')
 (hT:∀b,S b->b<W.heap.size->(b<base∨∃c f,W.heap[b]? =some (.cells c E f))->T b):zEO E W' base S v l:=by
 obtain⟨a,n,cap,e,hn,hm,hj⟩:=h
 refine⟨a,n,cap,e,hn,hm,fun j hlt=>?_⟩
 obtain⟨b,off,e,hS,hb,hty,hc⟩:=hj j hlt
 have ht:=hT b hS hb hty
 refine⟨b,off,e,hS,Nat.lt_of_lt_of_le hb hk.size,?_,hk.cell hc ht⟩
 rcases hty with h|⟨c,f,h⟩
 ·exact .inl h
 ·exact .inr ⟨c,f,(hk.block b hb ht).trans h⟩
theorem zEO.ints{E:TypeId}{W:World}{base:Nat}{S:Nat->Prop}{l:List Int}{a:Option Addr}{n cap:Nat}(h:zEO E W base S (.slice a n cap) l):l.length=n∧n<=maxLen∧zAI W a l:=by
 obtain⟨a',n',cap',e,hn,hm,hj⟩:=h
 cases e
 refine⟨hn,hm,fun j hlt=>?_⟩
 obtain⟨b,off,e,_,hb,_,hc⟩:=hj j hlt
 exact⟨b,off,e,hb,hc⟩
theorem zEO.own{E:TypeId}{W:World}{b0 base:Nat}{S:Nat->Prop}{v:Value}{l:List Int}(h:W.ownsRow b0 E 1 v l.length (l.map (Value.int .i64)))(hm:l.length<=maxLen)(hS:∀b,b0<=b->S b):zEO E W base S v l:=by
 obtain⟨h1,h2⟩:=h
 rcases h2 with⟨rfl,h0⟩|⟨g,cap,cur,rfl,hg,hh,hnc,hcm,hsz,htk⟩
 ·exact⟨none,0,0,rfl,h0,by unfold maxLen;omega,fun j hj=>by omega⟩
 ·refine⟨_,_,cap,rfl,rfl,hm,fun j hj=>⟨g,0,rfl,hS g hg,(Array.getElem?_eq_some_iff.1 hh).1,.inr ⟨cur,_,hh⟩,?_⟩⟩
  rw[Nat.zero_add]
  have:=World.ownsRow.cellAt (w:=W) (base:=b0) (e:=E) (size:=1) (g:=g) (n:=l.length) (cap:=cap) (xs:=l.map (Value.int .i64)) ⟨h1,.inr ⟨g,cap,cur,rfl,hg,hh,hnc,hcm,hsz,htk⟩⟩ j (by omega)
  rw[this,List.getElem?_map,List.getElem?_eq_getElem hj];rfl
theorem zAD{W:World}{base:Nat}{e:TypeId}{size:Nat}{v:Value}{n:Nat}{xs:List Value}(h:W.ownsRow base e size v n xs):∃a cap,v=.slice a n cap:=by
 rcases h.2 with⟨rfl,rfl⟩|⟨g,cap,cur,rfl,_⟩
 ·exact⟨_,_,rfl⟩
 ·exact⟨_,_,rfl⟩
def zJL(E T:TypeId)(W:World)(base:Nat)(S:Nat->Prop)(v:Value)(ls:List (List Int)):Prop:=
 ∃vs,W.ownsRow base T 1 v ls.length vs∧(∀k,v.ownBlock=some k->S k)∧∀j (hj:j<ls.length),∃u,vs[j]? =some u∧zEO E W base S u ls[j]
theorem zJL.nil(E T:TypeId)(W:World)(base:Nat)(S:Nat->Prop):zJL E T W base S (.slice none 0 0) []:=
 ⟨[],World.ownsRow_nil _ _ _ _,fun k hk=>by simp[Value.ownBlock]at hk,fun j hj=>by simp at hj⟩
theorem zJL.keep{E T:TypeId}{W W':World}{base:Nat}{S:Nat->Prop}{v:Value}{ls:List (List Int)}(h:zJL E T W base S v ls)(hk:Keep S W W'):zJL E T W' base S v ls:=by
 obtain⟨vs,ho,hg,he⟩:=h
 refine⟨vs,⟨ho.1,?_⟩,hg,fun j hj=>?_⟩
 ·rcases ho.2 with hn|⟨g,cap,cur,rfl,hb,hgg,rest⟩
  ·exact .inl hn
  ·exact .inr ⟨g,cap,cur,rfl,hb,(hk.block g (Array.getElem?_eq_some_iff.1 hgg).1 (hg g rfl)).trans hgg,rest⟩
 ·obtain⟨u,hu,hel⟩:=he j hj
  exact⟨u,hu,hel.keep hk fun b hS _ _=>hS⟩
theorem zJL.snoc{E T:TypeId}(hET:E≠T){W w1 w2:World}{base:Nat}{S:Nat->Prop}{v v' u:Value}{ls:List (List Int)}{l:List Int}{vs:List Value}
 (ho:W.ownsRow base T 1 v ls.length vs)(he:∀j (hj:j<ls.length),∃u,vs[j]? =some u∧zEO E W base S u ls[j])(hu:zEO E W base S u l)
 (hW1:Below W.heap.size W w1)(hg:w1.grownBy w2 v.ownBlock)(ho':w2.ownsRow base T 1 v' (ls.length+1) (vs++[u]))(hS':∀k,v'.ownBlock=some k->S k):zJL E T w2 base S v' (ls++[l]):=by
 have hlen:vs.length=ls.length:=by have:=ho.1;omega
 have hgb:∀b,(b<base∨∃c f,W.heap[b]? =some (.cells c E f))->b<W.heap.size->w2.heap[b]? =W.heap[b]? :=by
  intro b hty hb
  refine(hg.block b (Nat.lt_of_lt_of_le hb hW1.size) ?_).trans (hW1.block b hb)
  rcases ho.2 with⟨rfl,_⟩|⟨g,cap,cur,rfl,hbg,hgg,_⟩
  ·simp[Value.ownBlock]
  ·intro e
   obtain rfl:b=g:=by simpa[Value.ownBlock]using e
   rcases hty with h|⟨c,f,h⟩
   ·omega
   ·rw[h]at hgg;cases hgg;exact hET rfl
 have hel:∀u l,zEO E W base S u l->zEO E w2 base S u l:=by
  intro u l h
  refine h.keep (T:=fun b=>b<W.heap.size∧(b<base∨∃c f,W.heap[b]? =some (.cells c E f))) ⟨hg.os.trans hW1.os,hg.tape.trans hW1.tape,hg.output.trans hW1.output,Nat.le_trans hW1.size hg.size,fun k hk hT=>hgb k hT.2 hk⟩ fun b _ hb hty=>⟨hb,hty⟩
 refine⟨vs++[u],by simpa using ho',hS',fun j hj=>?_⟩
 by_cases e:j<ls.length
 ·obtain⟨u',hu',hel'⟩:=he j e
  refine⟨u',by rw[List.getElem?_append_left (by omega)];exact hu',?_⟩
  rw[List.getElem_append_left e]
  exact hel _ _ hel'
 ·have:j=ls.length:=by simp at hj;omega
  subst this
  refine⟨u,by rw[List.getElem?_append_right (by omega),hlen];simp,?_⟩
  simp only[List.getElem_append_right (Nat.le_refl _),Nat.sub_self,List.getElem_cons_zero]
  exact hel _ _ hu
end
section
open Go.RowKit
def inB(n lo hi:Int):Bool:=decide (lo<=n)&&decide (n<=hi)
theorem zIU(n lo hi:Int)(w:World):Calls Tryz.prog 142 #[.int .i64 n,.int .i64 lo,.int .i64 hi] w fun e w'=>e=.returned (.bool (inB n lo hi))∧w=w':=by
 by_cases h1:lo<=n<;>by_cases h2:n<=hi
 all_goals
  go_enter Tryz.func142,Tryz.ntmps142
  go_wp2
  go_ret
  exact⟨zAT (by simp[inB,h1,h2]),rfl⟩
theorem indexI(w:World)(a:Option Addr)(n cap:Nat)(l:List Int)(hn:l.length=n)(hm:n<=maxLen)(H:zAI w a l)(g:Nat)(lb:Array Value)(p:Int->Bool)
 (eg:∀args w,(callFunc g args).run Tryz.prog w=.ok (.enter g args) w)(hp:PredI Tryz.prog g lb w p):
 Calls Tryz.prog 166 #[.slice a n cap,.func (.func g) #[] lb] w fun e w'=>e=.returned (.int .i64 (idxP p l 0))∧Below w.heap.size w w':=by
 have HN:=hid hn
 have HH:=hid H
 have HP:=hid hp
 clear hn H hp
 unfold maxLen at hm
 go_enter Tryz.func166,Tryz.ntmps166
 go_wp2
 go_loopw [8] (fun i wr=>∃k:Nat,k<=n∧i=.int .i64 k∧Below w.heap.size w wr∧∀i y,i<k->l[i]? =some y->p y=false) (fun i _=>n-(intOf i).toNat)
 case atStart=>exact⟨0,Nat.zero_le _,rfl,Below.refl _ _,fun i y h=>by omega⟩
 case round=>
  obtain⟨k,hk,rfl,hb,hno⟩:=hrel
  have HNO:=hid hno
  clear hno
  by_cases hlt:k<n
  ·obtain⟨b,off,rfl,hbs,hc⟩:=(HH.out.below hb) k (by rw[HN.out];exact hlt)
   have hkk:=getD_lt (l:=l) (k:=k) (by rw[HN.out];exact hlt)
   have HK:=hid hkk
   clear hkk
   cases hpx:p (l[k]?.getD 0)
   ·go_wp2_with (refine(HP.out _ _ hb).mono ?_;rintro e w1 ⟨rfl,hb1⟩)
    refine⟨⟨k+1,by omega,by go_num,zAA hb hb1,?_⟩,by simp[intOf];omega⟩
    intro i y hi hy
    by_cases e:i=k
    ·subst e;rw[HK.out]at hy;cases hy;exact hpx
    ·exact HNO.out i y (by omega) hy
   ·go_wp2_with (refine(HP.out _ _ hb).mono ?_;rintro e w1 ⟨rfl,hb1⟩)
    go_ret
    refine⟨zDB ?_,zAA hb hb1⟩
    rw[zKF p l 0 k _ HK.out hpx HNO.out];simp
  ·go_wp2
   go_ret
   refine⟨zDB ?_,hb⟩
   rw[zHI]
   intro x hx
   obtain⟨i,hi,e⟩:=List.getElem_of_mem hx
   exact HNO.out i x (by have:=HN.out;omega) (by rw[List.getElem?_eq_getElem hi,e])
theorem zNF(w:World)(a:Option Addr)(n cap:Nat)(l:List Int)(hn:l.length=n)(hm:n<=maxLen)(H:zAI w a l)(g:Nat)(lb:Array Value)(p:Int->Bool)
 (eg:∀args w,(callFunc g args).run Tryz.prog w=.ok (.enter g args) w)(hp:PredI Tryz.prog g lb w p):
 Calls Tryz.prog 105 #[.slice a n cap,.func (.func g) #[] lb] w fun e w'=>e=.returned (.bool (l.any p))∧Below w.heap.size w w':=by
 have HC:=hid (indexI w a n cap l hn hm H g lb p eg hp)
 have HG:=zNA p l 0
 have HG':=hid HG
 clear hn H hp HG
 go_enter Tryz.func105,Tryz.ntmps105
 go_wp2_with (refine HC.out.mono ?_;rintro e w1 ⟨rfl,hb1⟩)
 go_ret
 refine⟨zAT ?_,hb1⟩
 rw[Bool.eq_iff_iff,decide_eq_true_iff,HG'.out]
def SlV(w:World)(v:Value)(l:List Int):Prop:=∃ra n cap,v=.slice ra n cap∧l.length=n∧n<=maxLen∧zAI w ra l
theorem SlV.below{w w':World}{v:Value}{l:List Int}(h:SlV w v l)(hb:Below w.heap.size w w'):SlV w' v l:=by
 obtain⟨ra,n,cap,e,hn,hm,hi⟩:=h
 exact⟨ra,n,cap,e,hn,hm,hi.below hb⟩
def PredR(P:Program)(g:Nat)(lb:Array Value)(w:World)(p:List Int->Bool):Prop:=
 ∀(l:List Int) (v:Value) (W:World),Below w.heap.size w W->SlV W v l->Calls P g (#[v]++lb) W fun e W'=>e=.returned (.bool (p l))∧Below W.heap.size W W'
theorem indexR(w:World)(a:Option Addr)(n cap:Nat)(l:List (List Int))(hn:l.length=n)(hm:n<=maxLen)(H:zAN w a l)(g:Nat)(lb:Array Value)(p:List Int->Bool)
 (eg:∀args w,(callFunc g args).run Tryz.prog w=.ok (.enter g args) w)(hp:PredR Tryz.prog g lb w p):
 Calls Tryz.prog 228 #[.slice a n cap,.func (.func g) #[] lb] w fun e w'=>e=.returned (.int .i64 (idxP p l 0))∧Below w.heap.size w w':=by
 have HN:=hid hn
 have HH:=hid H
 have HP:=hid hp
 clear hn H hp
 unfold maxLen at hm
 go_enter Tryz.func228,Tryz.ntmps228
 go_wp2
 go_loopw [8] (fun i wr=>∃k:Nat,k<=n∧i=.int .i64 k∧Below w.heap.size w wr∧∀i y,i<k->l[i]? =some y->p y=false) (fun i _=>n-(intOf i).toNat)
 case atStart=>exact⟨0,Nat.zero_le _,rfl,Below.refl _ _,fun i y h=>by omega⟩
 case round=>
  obtain⟨k,hk,rfl,hb,hno⟩:=hrel
  have HNO:=hid hno
  clear hno
  by_cases hlt:k<n
  ·have hkl:k<l.length:=by rw[HN.out];exact hlt
   obtain⟨b,off,ra,rn,rc,rfl,hbs,h0,hrn,hrm,hri⟩:=(HH.out.below hb) k hkl
   have HV:=hid (show SlV wr (.slice ra rn rc) l[k]from⟨ra,rn,rc,rfl,hrn,hrm,hri⟩)
   clear hrn hri
   have HK:=hid (List.getElem?_eq_getElem hkl)
   cases hpx:p l[k]
   ·go_wp2_with (refine(HP.out _ _ _ hb HV.out).mono ?_;rintro e w1 ⟨rfl,hb1⟩)
    refine⟨⟨k+1,by omega,by go_num,zAA hb hb1,?_⟩,by simp[intOf];omega⟩
    intro i y hi hy
    by_cases e:i=k
    ·subst e;rw[HK.out]at hy;cases hy;exact hpx
    ·exact HNO.out i y (by omega) hy
   ·go_wp2_with (refine(HP.out _ _ _ hb HV.out).mono ?_;rintro e w1 ⟨rfl,hb1⟩)
    go_ret
    refine⟨zDB ?_,zAA hb hb1⟩
    rw[zKF p l 0 k _ HK.out hpx HNO.out];simp
  ·go_wp2
   go_ret
   refine⟨zDB ?_,hb⟩
   rw[zHI]
   intro x hx
   obtain⟨i,hi,e⟩:=List.getElem_of_mem hx
   exact HNO.out i x (by have:=HN.out;omega) (by rw[List.getElem?_eq_getElem hi,e])
theorem containsR(w:World)(a:Option Addr)(n cap:Nat)(l:List (List Int))(hn:l.length=n)(hm:n<=maxLen)(H:zAN w a l)(g:Nat)(lb:Array Value)(p:List Int->Bool)
 (eg:∀args w,(callFunc g args).run Tryz.prog w=.ok (.enter g args) w)(hp:PredR Tryz.prog g lb w p):
 Calls Tryz.prog 202 #[.slice a n cap,.func (.func g) #[] lb] w fun e w'=>e=.returned (.bool (l.any p))∧Below w.heap.size w w':=by
 have HC:=hid (indexR w a n cap l hn hm H g lb p eg hp)
 have HG:=zNA p l 0
 have HG':=hid HG
 clear hn H hp HG
 go_enter Tryz.func202,Tryz.ntmps202
 go_wp2_with (refine HC.out.mono ?_;rintro e w1 ⟨rfl,hb1⟩)
 go_ret
 refine⟨zAT ?_,hb1⟩
 rw[Bool.eq_iff_iff,decide_eq_true_iff,HG'.out]
theorem allI1(w:World)(b g:Nat)(lb:Array Value)(p:Int->Bool)(eg:∀args w,(callFunc g args).run Tryz.prog w=.ok (.enter g args) w)(hb:b<w.heap.size)(hc:w.cell? ⟨b,0,none⟩=some (.func (.func g) #[] lb))(hp:PredI Tryz.prog g lb w p):
 PredI Tryz.prog 247 #[.pointer (some ⟨b,0,none⟩)] w (fun n=>!p n):=by
 intro x W hbw
 have hc':W.cell? ⟨b,0,none⟩=some (.func (.func g) #[] lb):=(hbw.cell (p:=⟨b,0,none⟩) hb).trans hc
 have HP:=hid (hp x W hbw)
 clear hp
 go_enter Tryz.func247,Tryz.ntmps247
 go_wp2_with (refine HP.out.mono ?_;rintro e w1 ⟨rfl,hb1⟩)
 go_ret
 exact⟨rfl,hb1⟩
theorem allI_c(w:World)(a:Option Addr)(n cap:Nat)(l:List Int)(hn:l.length=n)(hm:n<=maxLen)(H:zAI w a l)(g:Nat)(lb:Array Value)(p:Int->Bool)
 (eg:∀args w,(callFunc g args).run Tryz.prog w=.ok (.enter g args) w)(hp:PredI Tryz.prog g lb w p):
 Calls Tryz.prog 204 #[.slice a n cap,.func (.func g) #[] lb] w fun e w'=>e=.returned (.bool (l.all p))∧Below w.heap.size w w':=by
 have hb0:Below w.heap.size w (w.alloc (.cells #[.func (.func g) #[] lb] 125)):=(Below.refl _ _).alloc (Nat.le_refl _) _
 have HC:=hid (zNF (w.alloc (.cells #[.func (.func g) #[] lb] 125)) a n cap l hn hm (H.below hb0) 247 #[.pointer (some ⟨w.heap.size,0,none⟩)] _ (enters_of Tryz.func247 (by kernel_rfl) rfl)
  (allI1 _ w.heap.size g lb p eg (by simp) (by rw[World.cell?_alloc_at _ _ _ _ rfl];rfl) (fun x W h=>hp x W (zAA hb0 h))))
 clear hn H hp
 have hmf:∀(fn:Fn) (first cap:Array Value) (w:World),(Instr.makeFunc fn first cap).run Tryz.prog w=.ok (.func fn first cap) w:=fun _ _ _ _=>rfl
 go_enter Tryz.func204,Tryz.ntmps204
 go_wp2_with (refine HC.out.mono ?_;rintro e w1 ⟨rfl,hb1⟩)
 go_ret
 exact⟨zAT (by simp[List.all_eq_not_any_not]),zAA hb0 hb1⟩
theorem allR1(w:World)(b g:Nat)(lb:Array Value)(p:List Int->Bool)(eg:∀args w,(callFunc g args).run Tryz.prog w=.ok (.enter g args) w)(hb:b<w.heap.size)(hc:w.cell? ⟨b,0,none⟩=some (.func (.func g) #[] lb))(hp:PredR Tryz.prog g lb w p):
 PredR Tryz.prog 203 #[.pointer (some ⟨b,0,none⟩)] w (fun n=>!p n):=by
 intro x v W hbw hv
 have hc':W.cell? ⟨b,0,none⟩=some (.func (.func g) #[] lb):=(hbw.cell (p:=⟨b,0,none⟩) hb).trans hc
 have HP:=hid (hp x v W hbw hv)
 obtain⟨ra,rn,rc,rfl,_,_,_⟩:=hv
 clear hp
 go_enter Tryz.func203,Tryz.ntmps203
 go_wp2_with (refine HP.out.mono ?_;rintro e w1 ⟨rfl,hb1⟩)
 go_ret
 exact⟨rfl,hb1⟩
theorem allR_c(w:World)(a:Option Addr)(n cap:Nat)(l:List (List Int))(hn:l.length=n)(hm:n<=maxLen)(H:zAN w a l)(g:Nat)(lb:Array Value)(p:List Int->Bool)
 (eg:∀args w,(callFunc g args).run Tryz.prog w=.ok (.enter g args) w)(hp:PredR Tryz.prog g lb w p):
 Calls Tryz.prog 143 #[.slice a n cap,.func (.func g) #[] lb] w fun e w'=>e=.returned (.bool (l.all p))∧Below w.heap.size w w':=by
 have hb0:Below w.heap.size w (w.alloc (.cells #[.func (.func g) #[] lb] 131)):=(Below.refl _ _).alloc (Nat.le_refl _) _
 have HC:=hid (containsR (w.alloc (.cells #[.func (.func g) #[] lb] 131)) a n cap l hn hm (H.below hb0) 203 #[.pointer (some ⟨w.heap.size,0,none⟩)] _ (enters_of Tryz.func203 (by kernel_rfl) rfl)
  (allR1 _ w.heap.size g lb p eg (by simp) (by rw[World.cell?_alloc_at _ _ _ _ rfl];rfl) (fun x v W h=>hp x v W (zAA hb0 h))))
 clear hn H hp
 have hmf:∀(fn:Fn) (first cap:Array Value) (w:World),(Instr.makeFunc fn first cap).run Tryz.prog w=.ok (.func fn first cap) w:=fun _ _ _ _=>rfl
 go_enter Tryz.func143,Tryz.ntmps143
 go_wp2_with (refine HC.out.mono ?_;rintro e w1 ⟨rfl,hb1⟩)
 go_ret
 exact⟨zAT (by simp[List.all_eq_not_any_not]),zAA hb0 hb1⟩
abbrev Mask:=List (List Int)
def zGR(l:List Int):Bool:=inB l.length 1 10&&l.all (fun n=>inB n (-1) 1)
def zAC(M:Mask):Nat:=(M[0]?.getD []).length
def okM(M:Mask):Bool:=inB M.length 1 6&&M.all (fun l=>decide (l.length=zAC M)&&zGR l)
theorem row1(w:World):PredI Tryz.prog 205 #[] w (fun n=>inB n (-1) 1):=by
 intro x W hb
 go_enter Tryz.func205,Tryz.ntmps205
 go_wp2_with (go_at_call 142;refine(zIU _ _ _ _).mono ?_;rintro e w1 ⟨rfl,rfl⟩)
 go_ret
 exact⟨rfl,Below.refl _ _⟩
theorem mrow_c(w:World)(a:Option Addr)(n cap:Nat)(l:List Int)(hn:l.length=n)(hm:n<=maxLen)(H:zAI w a l):
 Calls Tryz.prog 145 #[.slice a n cap] w fun e w'=>e=.returned (.bool (zGR l))∧Below w.heap.size w w':=by
 have HC:=hid (allI_c w a n cap l hn hm H 205 #[] _ (enters_of Tryz.func205 (by kernel_rfl) rfl) (row1 w))
 have HN:=hid hn
 clear hn H
 cases h:inB n 1 10
 all_goals
  have HQ:=hid h
  go_enter Tryz.func145,Tryz.ntmps145
  go_wp2_with (first| (go_at_call 142;refine(zIU _ _ _ _).mono ?_;rintro e w1 ⟨rfl,rfl⟩)| (refine HC.out.mono ?_;rintro e w1 ⟨rfl,hb1⟩))
  go_ret
  first
   |exact⟨zAT (by unfold zGR;rw[HN.out,HQ.out];simp),hb1⟩
   |exact⟨zAT (by unfold zGR;rw[HN.out,HQ.out];simp),Below.refl _ _⟩
theorem valid1(w:World)(b:Nat)(a:Option Addr)(n cap:Nat)(M:Mask)(hn:M.length=n)(hm:n<=maxLen)(h0:0<n)(H:zAN w a M)(hb:b<w.heap.size)(hc:w.cell? ⟨b,0,none⟩=some (.slice a n cap)):
 PredR Tryz.prog 144 #[.pointer (some ⟨b,0,none⟩)] w (fun l=>decide (l.length=zAC M)&&zGR l):=by
 intro x v W hbw hv
 have hc':W.cell? ⟨b,0,none⟩=some (.slice a n cap):=(hbw.cell (p:=⟨b,0,none⟩) hb).trans hc
 obtain⟨ra,rn,rc,rfl,hrn,hrm,hri⟩:=hv
 have HR:=hid (mrow_c W ra rn rc x hrn hrm hri)
 obtain⟨b',off,qa,qn,qc,rfl,hbs,hq0,hqn,hqm,hqi⟩:=(H.below hbw) 0 (by omega)
 have HCols:zAC M=qn:=by unfold zAC;rw[List.getElem?_eq_getElem (by omega),<- hqn];rfl
 have HCO:=hid HCols
 have HRN:=hid hrn
 unfold maxLen at hm
 simp only[Nat.add_zero]at hq0
 clear HCols hrn hri hqn hqi H hc
 by_cases h:rn=qn
 all_goals
  have hd:((rn:Int)==(qn:Int))=decide (rn=qn):=by rw[Bool.eq_iff_iff];simp;omega
  have HQ:=hid h
  first
   |rw[decide_eq_true h]at hd
   |rw[decide_eq_false h]at hd
  clear h
  go_enter Tryz.func144,Tryz.ntmps144
  go_wp2_with (go_at_call 145;refine HR.out.mono ?_;rintro e w1 ⟨rfl,hb1⟩)
  go_ret
  first
   |exact⟨zAT (by rw[HRN.out,HCO.out,decide_eq_true HQ.out];simp),hb1⟩
   |exact⟨zAT (by rw[HRN.out,HCO.out,decide_eq_false HQ.out];simp),Below.refl _ _⟩
theorem zHY(w:World)(a:Option Addr)(n cap:Nat)(M:Mask)(hn:M.length=n)(hm:n<=maxLen)(H:zAN w a M):
 Calls Tryz.prog 79 #[.slice a n cap] w fun e w'=>e=.returned (.bool (okM M))∧Below w.heap.size w w':=by
 have hb0:Below w.heap.size w (w.alloc (.cells #[.slice a n cap] 23)):=(Below.refl _ _).alloc (Nat.le_refl _) _
 have hmf:∀(fn:Fn) (first cap:Array Value) (w:World),(Instr.makeFunc fn first cap).run Tryz.prog w=.ok (.func fn first cap) w:=fun _ _ _ _=>rfl
 cases h:inB n 1 6
 ·have HQ:=hid h
  have HN:=hid hn
  clear hn H
  go_enter Tryz.func79,Tryz.ntmps79
  go_wp2_with (go_at_call 142;refine(zIU _ _ _ _).mono ?_;rintro e w1 ⟨rfl,rfl⟩)
  go_ret
  exact⟨zAT (by unfold okM;rw[HN.out,HQ.out];simp),hb0⟩
 ·have h0:0<n:=by unfold inB at h;simp at h;omega
  have HC:=hid (allR_c (w.alloc (.cells #[.slice a n cap] 23)) a n cap M hn hm (H.below hb0) 144 #[.pointer (some ⟨w.heap.size,0,none⟩)] _ (enters_of Tryz.func144 (by kernel_rfl) rfl)
   (valid1 _ w.heap.size a n cap M hn hm h0 (H.below hb0) (by simp) (by rw[World.cell?_alloc_at _ _ _ _ rfl];rfl)))
  have HQ:=hid h
  have HN:=hid hn
  clear hn H
  go_enter Tryz.func79,Tryz.ntmps79
  go_wp2_with (first| (go_at_call 142;refine(zIU _ _ _ _).mono ?_;rintro e w1 ⟨rfl,rfl⟩)| (refine HC.out.mono ?_;rintro e w1 ⟨rfl,hb1⟩))
  go_ret
  exact⟨zAT (by unfold okM;rw[HN.out,HQ.out];simp),zAA hb0 hb1⟩
end
section
open Go.RowKit
theorem zJZ{P:Program}{w:World}(base:Nat)(t ty e:TypeId)(i:TypeInfo)(size c:Nat)(ht:P.underlying t=some (.slice e))(hi:P.info? e=some i)
 (v:Value)(n:Nat)(xs:List Value)(hown:w.ownsRow base e size v n xs):(Builtin.append_ #[t,t] ty #[v,.slice none 0 c]).run P w=.ok v w:=by
 rcases hown.2 with⟨rfl,rfl⟩|⟨g,cap,cur,rfl,_,_,hnc,_⟩
 ·simp[Builtin.append_,run_underlying ht,sizeOf,typeInfo,hi,Builtin.lenOf,Builtin.firstCells]
 ·simp[Builtin.append_,run_underlying ht,sizeOf,typeInfo,hi,Builtin.lenOf,Builtin.firstCells,hnc,storeCells]
theorem zAQ{P:Program}(w:World){ops:Array Oper}{rest:List Oper}{o:Oper}{a:Act}{Q:Exit->Act->World->Prop}(hgd:o.guard=none)(s x:Operand)(t:TypeId)
 (ho:o.op=.call {callee:=.builtin .append,args:=#[s,x],argTypes:=#[t,t]})
 (base:Nat)(e:TypeId)(z:Value)(size bytes:Nat)(ht:P.underlying t=some (.slice e))(hinfo:(P.info? e).map (fun i=>(i.zero,i.size,i.bytes))=some (some z,size,bytes))
 (hzs:z.cells.size=size)(hsz:0<size)
 (v:Value)(n:Nat)(xs:List Value)(hs:a.eval s=v)(hown:w.ownsRow base e size v n xs)
 (ao:Option Addr)(m c:Nat)(news:List Value)(hx:a.eval x=.slice ao m c)(hl:news.length=m*size)(hnone:ao=none->m=0)
 (hnews:∀ad,ao=some ad->∀j u,news[j]? =some u->w.cell? (ad.add j)=some u)(h1:∀u∈news,u.oneCell'=true)
 (h63:n+m<=maxLen)(hbytes:(n+m)*bytes<=140737488355328)(hbase:base<=w.heap.size)
 (h:∀a' c' w',w'.ownsRow base e size (.slice a' (n+m) c') (n+m) (xs++news)->w.grownBy w' v.ownBlock->wpList P ops Q rest (a.put o.dst (.slice a' (n+m) c')) w'):wpList P ops Q (o::rest) a w:=by
 obtain⟨i,hi,hz,h2,h3⟩:=info_parts hinfo
 cases ao with
 |some ad=>
  refine wpList_append_own w hgd s x t ho base e i z size bytes ht hi hz h2 h3 hzs hsz v n xs hs hown ad m c news hx hl (hnews ad rfl) h1 h63 hbytes hbase ?_
  intro v' w' ho' hg _
  obtain⟨a',c',rfl⟩:=zAD ho'
  exact h a' c' w' ho' hg
 |none=>
  obtain rfl:=hnone rfl
  have hnil:news=[]:=List.eq_nil_of_length_eq_zero (by simpa using hl)
  subst hnil
  refine wpList_plain hgd fun K hK=>?_
  have hrun:=zJZ (P:=P) (w:=w) base t o.type e i size c ht hi v n xs hown
  obtain⟨a',c',rfl⟩:=zAD hown
  unfold Oper.wp
  simp[execOp,ho,resolve,invoke,builtin,hs,hx,hrun,Result.andThen]
  exact hK _ _ (h a' c' w (by simpa using hown) (World.grownBy.refl _ _))
theorem ints_news{w:World}{a:Option Addr}{l:List Int}(H:zAI w a l):∀ad,a=some ad->∀j u,(l.map (Value.int .i64))[j]? =some u->w.cell? (ad.add j)=some u:=by
 intro ad ha j u hu
 rw[List.getElem?_map]at hu
 obtain⟨x,hx,rfl⟩:=Option.map_eq_some_iff.1 hu
 obtain⟨hj,e⟩:=List.getElem?_eq_some_iff.1 hx
 obtain⟨b,off,ea,hb,hc⟩:=H j hj
 rw[ha]at ea
 cases ea
 rw[Addr.add_lit,hc,hx];rfl
theorem ints_none{w:World}{a:Option Addr}{l:List Int}(H:zAI w a l):a=none->l.length=0:=by
 intro ha
 rcases Nat.eq_zero_or_pos l.length with h|h
 ·exact h
 ·obtain⟨_,_,e,_⟩:=H 0 h;rw[ha]at e;cases e
theorem zBT(w:World)(x:Value)(t:TypeId):∀ad,(some ⟨w.heap.size,0,none⟩:Option Addr)=some ad->∀j u,[x][j]? =some u->(w.alloc (.cells #[x] t)).cell? (ad.add j)=some u:=by
 intro ad e j u hu
 cases e
 match j,hu with
 |0,hu=>
  simp at hu;subst hu
  rw[Addr.add_lit,World.cell?_alloc_at _ _ _ _ rfl];rfl
theorem zCH(w:World)(o:Obj):w.heap.size<=(w.alloc o).heap.size:=by simp
theorem zCT(a:Option Addr)(n c:Nat):∀u∈[Value.slice a n c],u.oneCell'=true:=by intro u hu;simp at hu;subst hu;rfl
theorem zCD{α:Type}{a:α}{p:Prop}:some a=none->p:=fun h=>by cases h
theorem zEO.own'{E:TypeId}{W:World}{b0 base:Nat}{S:Nat->Prop}{v:Value}{l:List Int}{n:Nat}{xs:List Value}(h:W.ownsRow b0 E 1 v n xs)(hx:xs=l.map (Value.int .i64))(hn:l.length=n)(hm:n<=maxLen)(hS:∀b,b0<=b->S b):zEO E W base S v l:=by
 subst hx;subst hn;exact zEO.own h hm hS
theorem zAP{w:World}{b:Nat}{c:Array Value}{E:TypeId}{f:Nat×Nat}(h:w.heap[b]? =some (.cells c E f))(j:Nat)(v:Value):
 (w.setCell ⟨b,j,none⟩ v).heap[b]? =some (.cells (c.setIfInBounds j v) E f):=by
 obtain⟨hlt,hk⟩:=Array.getElem?_eq_some_iff.1 h
 show(w.heap.modify b _)[b]? =_
 rw[Array.getElem?_eq_getElem (by rw[Array.size_modify];exact hlt),Array.getElem_modify_self,hk]
 rfl
theorem zAG{B:Nat}{a w:World}(h:Below B a w){b:Nat}(hb:B<=b)(o:Nat)(v:Value):Below B a (w.setCell ⟨b,o,none⟩ v):=h.setCell (p:=⟨b,o,none⟩) hb v
end
section
section
def ex{α:Type}(c:α->Int)(f:List α->Int):List α->Int
 | []=>0
 |r::rs=>c r*f rs-ex c (fun l=>f (r::l)) rs
theorem ex_zero{α:Type}(c:α->Int):∀l:List α,ex c (fun _=>0) l=0
 | []=>rfl
 |r::rs=>by unfold ex;rw[ex_zero c rs];simp
theorem ex_sub{α:Type}(c:α->Int):∀(l:List α) (f g:List α->Int),ex c (fun m=>f m-g m) l=ex c f l-ex c g l
 | [],_,_=>by simp[ex]
 |r::rs,f,g=>by
  unfold ex
  rw[ex_sub c rs (fun l=>f (r::l)) (fun l=>g (r::l))]
  grind
theorem ex_mul{α:Type}(c:α->Int)(k:Int):∀(l:List α) (f:List α->Int),ex c (fun m=>k*f m) l=k*ex c f l
 | [],_=>by simp[ex]
 |r::rs,f=>by
  unfold ex
  rw[ex_mul c k rs (fun l=>f (r::l))]
  grind
theorem zPM{α:Type}(c d:α->Int):∀(l:List α) (f:List α->Int),ex c (ex d f) l= -ex d (ex c f) l
 | [],_=>by simp[ex]
 |r::rs,f=>by
  have h1:ex c (fun l=>ex d f (r::l)) rs=d r*ex c f rs-ex c (ex d (fun m=>f (r::m))) rs:=by
   have:(fun l=>ex d f (r::l))=fun l=>d r*f l-ex d (fun m=>f (r::m)) l:=by funext l;rfl
   rw[this,ex_sub c rs (fun l=>d r*f l) (fun l=>ex d (fun m=>f (r::m)) l),ex_mul]
  have h2:ex d (fun l=>ex c f (r::l)) rs=c r*ex d f rs-ex d (ex c (fun m=>f (r::m))) rs:=by
   have:(fun l=>ex c f (r::l))=fun l=>c r*f l-ex c (fun m=>f (r::m)) l:=by funext l;rfl
   rw[this,ex_sub d rs (fun l=>c r*f l) (fun l=>ex c (fun m=>f (r::m)) l),ex_mul]
  have ih:=zPM c d rs (fun m=>f (r::m))
  show c r*ex d f rs-ex c (fun l=>ex d f (r::l)) rs= -(d r*ex c f rs-ex d (fun l=>ex c f (r::l)) rs)
  rw[h1,h2,ih]
  omega
theorem ex_same{α:Type}(c:α->Int)(f:List α->Int)(l:List α):ex c (ex c f) l=0:=by
 have:=zPM c c l f;omega
def det{α:Type}:List (α->Int)->List α->Int
 | [],_=>1
 |c::cs,l=>ex c (det cs) l
theorem det_rep{α:Type}{c:α->Int}:∀{cs:List (α->Int)},c∈cs->∀l:List α,det (c::cs) l=0
 |d::ds,h,l=>by
  rcases List.mem_cons.1 h with rfl|h
  ·exact ex_same _ _ _
  ·show ex c (ex d (det ds)) l=0
   rw[zPM]
   have:ex c (det ds)=fun _=>0:=by funext m;exact det_rep h m
   rw[this,ex_zero];rfl
def dotL{α:Type}:List Int->(α->Int)->List α->Int
 |k::ks,c,r::rs=>k*c r+dotL ks c rs
 |_,_,_=>0
theorem dotL_neg{α:Type}(c:α->Int):∀(ks:List Int) (l:List α),dotL (ks.map (- ·)) c l= -dotL ks c l
 | [],l=>by cases l<;>simp[dotL]
 |k::ks,[]=>by simp[dotL]
 |k::ks,r::rs=>by simp only[List.map_cons,dotL];rw[dotL_neg c ks rs];grind
theorem ex_sum{α:Type}:∀(l:List α) (f:List α->Int),∃ks:List Int,ks.length=l.length∧(∀r rs,l=r::rs->ks.head? =some (f rs))∧∀c,ex c f l=dotL ks c l
 | [],f=>⟨[],rfl,(fun _ _ h=>by cases h),fun c=>rfl⟩
 |r::rs,f=>by
  obtain⟨ks,h1,_,h3⟩:=ex_sum rs (fun l=>f (r::l))
  refine⟨f rs::ks.map (- ·),by simp[h1],(fun r' rs' e=>by cases e;rfl),fun c=>?_⟩
  unfold ex dotL
  rw[h3 c,dotL_neg]
  grind
def fact:Nat->Nat
 |0=>1
 |n+1=>(n+1)*fact n
theorem zKO{a b A B:Int}(h1: -A<=a∧a<=A)(h2: -B<=b∧b<=B): -(A*B)<=a*b∧a*b<=A*B:=by
 have ha:a.natAbs<=A.toNat:=by omega
 have hb:b.natAbs<=B.toNat:=by omega
 have h:=Nat.mul_le_mul ha hb
 rw[<- Int.natAbs_mul]at h
 have e:((A.toNat*B.toNat:Nat):Int)=A*B:=by
  rw[Int.natCast_mul,Int.toNat_of_nonneg (by omega),Int.toNat_of_nonneg (by omega)]
 omega
theorem ex_le{α:Type}{c:α->Int}{C:Int}(hc:∀r,-C<=c r∧c r<=C):∀(n:Nat) (F:Int) (f:List α->Int) (l:List α),l.length=n+1->(∀m:List α,m.length=n-> -F<=f m∧f m<=F)->
 -((n+1:Nat)*(C*F))<=ex c f l∧ex c f l<=(n+1:Nat)*(C*F)
 |0,F,f,[r],_,hf=>by
  have:=zKO (hc r) (hf [] rfl)
  simp[ex];omega
 |n+1,F,f,r::rs,hl,hf=>by
  have hl':rs.length=n+1:=by simpa using hl
  have h1:=zKO (hc r) (hf rs hl')
  have h2:=ex_le hc n F (fun l=>f (r::l)) rs hl' (fun m hm=>hf (r::m) (by simp[hm]))
  unfold ex
  have e:((n+1+1:Nat):Int)*(C*F)=(n+1:Nat)*(C*F)+C*F:=by
   generalize C*F=K
   push_cast
   grind
  rw[e]
  omega
theorem det_le{α:Type}:∀(cs:List (α->Int)),(∀c∈cs,∀r,-1<=c r∧c r<=1)->∀l:List α,l.length=cs.length-> -(fact cs.length:Int)<=det cs l∧det cs l<=fact cs.length
 | [],_,l,_=>by simp[det,fact]
 |c::cs,hc,l,hl=>by
  have h:=ex_le (hc c (by simp)) cs.length (fact cs.length) (det cs) l (by simpa using hl) (fun m hm=>det_le cs (fun d hd=>hc d (by simp[hd])) m hm)
  show _<=ex c (det cs) l∧ex c (det cs) l<=_
  simp only[List.length_cons,fact]
  rw[Int.natCast_mul]
  simpa using h
theorem det_le2{α:Type}{c:α->Int}{Y:Int}(hY:∀r,-Y<=c r∧c r<=Y)(cs:List (α->Int))(hc:∀c∈cs,∀r,-1<=c r∧c r<=1)(l:List α)(hl:l.length=cs.length+1):
 -((cs.length+1:Nat)*(Y*fact cs.length))<=det (c::cs) l∧det (c::cs) l<=(cs.length+1:Nat)*(Y*fact cs.length):=
 ex_le hY cs.length (fact cs.length) (det cs) l hl (fun m hm=>det_le cs hc m hm)
end
section
abbrev Vec:=Nat->Int
inductive Sp (B:Vec->Prop):Vec->Prop
 |of {v:Vec}:B v->Sp B v
 |zero:Sp B (fun _=>0)
 |add {u v:Vec}:Sp B u->Sp B v->Sp B (fun c=>u c+v c)
 |mul (k:Int) {u:Vec}:Sp B u->Sp B (fun c=>k*u c)
 |div {k:Int} {u:Vec}:k≠0->Sp B (fun c=>k*u c)->Sp B u
theorem Sp.congr{B:Vec->Prop}{u v:Vec}(h:Sp B u)(e:∀c,v c=u c):Sp B v:=by
 have:v=u:=funext e
 rw[this];exact h
theorem Sp.trans{B B':Vec->Prop}(hB:∀v,B v->Sp B' v){v:Vec}(h:Sp B v):Sp B' v:=by
 induction h with
 |of h=>exact hB _ h
 |zero=>exact .zero
 |add _ _ h1 h2=>exact .add h1 h2
 |mul k _ h=>exact .mul k h
 |div hk _ h=>exact .div hk h
theorem Sp.lin{B:Vec->Prop}{u v:Vec}(x y:Int)(hu:Sp B u)(hv:Sp B v):Sp B (fun c=>x*u c+y*v c):=.add (.mul x hu) (.mul y hv)
theorem Sp.of_eq{B:Vec->Prop}{u v w:Vec}{n x y:Int}(hn:n≠0)(hu:Sp B u)(hw:Sp B w)(e:∀c,n*v c=x*u c+y*w c):Sp B v:=
 .div hn ((Sp.lin x y hu hw).congr e)
def sm(f:Nat->Int):Nat->Int
 |0=>0
 |n+1=>sm f n+f n
theorem zAL{f g:Nat->Int}:∀{n:Nat},(∀k,k<n->f k=g k)->sm f n=sm g n
 |0,_=>rfl
 |n+1,h=>by unfold sm;rw[zAL (fun k hk=>h k (by omega)),h n (by omega)]
theorem zFH:∀n,sm (fun _=>0) n=0
 |0=>rfl
 |n+1=>by unfold sm;rw[zFH n];rfl
theorem zHP(f g:Nat->Int):∀n,sm (fun k=>f k+g k) n=sm f n+sm g n
 |0=>rfl
 |n+1=>by unfold sm;rw[zHP f g n];omega
theorem zCZ(x:Int)(f:Nat->Int):∀n,sm (fun k=>x*f k) n=x*sm f n
 |0=>by simp[sm]
 |n+1=>by unfold sm;rw[zCZ x f n];grind
theorem zDZ{f:Nat->Int}{q:Nat}:∀{n:Nat},q<n->(∀k,k<n->k≠q->f k=0)->sm f n=f q
 |n+1,hq,h=>by
  unfold sm
  by_cases e:q=n
  ·subst e
   rw[zAL (g:=fun _=>0) (fun k hk=>h k (by omega) (by omega)),zFH];omega
  ·rw[zDZ (show q<n by omega) (fun k hk hne=>h k (by omega) hne),h n (by omega) (by omega)];omega
theorem zOH:∀(K:Nat) (x:Nat->Int),(∀k,k<K->x k≠0)->∃D:Int,D≠0∧∃e:Nat->Int,∀k,k<K->e k*x k=D
 |0,_,_=>⟨1,by decide,fun _=>0,fun k hk=>by omega⟩
 |K+1,x,h=>by
  obtain⟨D,hD,e,he⟩:=zOH K x (fun k hk=>h k (by omega))
  refine⟨D*x K,Int.mul_ne_zero hD (h K (by omega)),fun k=>if k=K then D else e k*x K,fun k hk=>?_⟩
  by_cases c:k=K
  ·subst c;simp
  ·simp only[if_neg c];rw[<- he k (by omega)];grind
def RB(K:Nat)(R:Nat->Vec)(v:Vec):Prop:=∃k,k<K∧v=R k
structure Red (K:Nat) (J:Nat->Nat) (R:Nat->Vec):Prop where
 piv:∀k,k<K->R k (J k)≠0
 off:∀k,k<K->∀q,q<K->k≠q->R k (J q)=0
theorem Red.repr{K:Nat}{J:Nat->Nat}{R:Nat->Vec}(h:Red K J R):∃D:Int,D≠0∧∃e:Nat->Int,∀v,Sp (RB K R) v->∀c,D*v c=sm (fun k=>v (J k)*e k*R k c) K:=by
 obtain⟨D,hD,e,he⟩:=zOH K (fun k=>R k (J k)) h.piv
 refine⟨D,hD,e,fun v hv=>?_⟩
 induction hv with
 |of hb=>
  obtain⟨q,hq,rfl⟩:=hb
  intro c
  rw[zDZ hq (fun k hk hne=>by rw[h.off q hq k hk (Ne.symm hne)];simp),<- he q hq]
  grind
 |zero=>intro c;rw[zAL (g:=fun _=>0) (fun k _=>by simp),zFH];simp
 |add _ _ h1 h2=>intro c;rw[Int.mul_add,h1,h2,<- zHP];exact zAL fun k _=>by grind
 |mul x _ h1=>
  intro c
  rw[Int.mul_left_comm,h1,<- zCZ]
  exact zAL fun k _=>by grind
 | @div x u hx _ h1=>
   intro c
   refine Int.eq_of_mul_eq_mul_left hx ?_
   rw[<- zCZ]
   have:=h1 c
   rw[show x*(D*u c)=D*(x*u c)by grind,this]
   exact zAL fun k _=>by grind
theorem Red.zero{K:Nat}{J:Nat->Nat}{R:Nat->Vec}(h:Red K J R){v:Vec}(hv:Sp (RB K R) v)(h0:∀k,k<K->v (J k)=0)(c:Nat):v c=0:=by
 obtain⟨D,hD,e,hr⟩:=h.repr
 have:=hr v hv c
 rw[zAL (g:=fun _=>0) (fun k hk=>by rw[h0 k hk];simp),zFH]at this
 rcases Int.mul_eq_zero.1 this with h|h
 ·exact absurd h hD
 ·exact h
theorem RB.sp{K:Nat}{R:Nat->Vec}{k:Nat}(hk:k<K):Sp (RB K R) (R k):=.of ⟨k,hk,rfl⟩
theorem Red.ratio{K:Nat}{J:Nat->Nat}{R:Nat->Vec}(h:Red K J R){v:Vec}(hv:Sp (RB K R) v){p:Nat}(hp:p<K)(h0:∀q,q<K->q≠p->v (J q)=0)(c:Nat):R p (J p)*v c=v (J p)*R p c:=by
 have hd:Sp (RB K R) (fun c=>R p (J p)*v c+ -(v (J p))*R p c):=Sp.lin _ _ hv (RB.sp hp)
 have:=h.zero hd (fun k hk=>by
  by_cases e:k=p
  ·subst e;grind
  ·rw[h0 k hk e,h.off p hp k hk (Ne.symm e)];simp) c
 grind
def zCO:Nat->List Nat
 |0=>[]
 |k+1=>k::zCO k
theorem zEY:∀K,(zCO K).length=K
 |0=>rfl
 |K+1=>by simp[zCO,zEY K]
theorem zIW:∀{K k:Nat},k∈zCO K↔k<K
 |0,k=>by simp[zCO]
 |K+1,k=>by simp only[zCO,List.mem_cons,zIW];omega
def zCU(J:Nat->Nat)(A:Nat->Vec):Nat->List (Nat->Int)
 |0=>[]
 |k+1=>(fun r=>A r (J k))::zCU J A k
theorem zDC(J:Nat->Nat)(A:Nat->Vec):∀K,(zCU J A K).length=K
 |0=>rfl
 |K+1=>by simp[zCU,zDC J A K]
theorem zFU{J:Nat->Nat}{A:Nat->Vec}:∀{K:Nat} {x:Nat->Int},x∈zCU J A K↔∃k,k<K∧x=fun r=>A r (J k)
 |0,x=>by simp[zCU]
 |K+1,x=>by
  simp only[zCU,List.mem_cons,zFU]
  constructor
  ·rintro (rfl|⟨k,hk,rfl⟩)
   ·exact⟨K,by omega,rfl⟩
   ·exact⟨k,by omega,rfl⟩
  ·rintro⟨k,hk,rfl⟩
   by_cases e:k=K
   ·subst e;exact .inl rfl
   ·exact .inr ⟨k,by omega,rfl⟩
theorem det_map{α β:Type}(f:α->β):∀(cs:List (β->Int)) (l:List α),det (cs.map (fun c a=>c (f a))) l=det cs (l.map f)
 | [],l=>rfl
 |c::cs,l=>by
  have key:∀(l:List α) (F:List α->Int) (G:List β->Int),(∀m,F m=G (m.map f))->ex (fun a=>c (f a)) F l=ex c G (l.map f):=by
   intro l
   induction l with
   |nil=>intro F G h;rfl
   |cons r rs ih=>
    intro F G h
    show c (f r)*F rs-ex (fun a=>c (f a)) (fun l=>F (r::l)) rs=c (f r)*G (rs.map f)-ex c (fun l=>G (f r::l)) (rs.map f)
    rw[h rs,ih (fun l=>F (r::l)) (fun l=>G (f r::l)) (fun m=>h (r::m))]
  exact key l _ _ (fun m=>det_map f cs m)
theorem dotL_sp{B:Vec->Prop}{A:Nat->Vec}:∀(l:List Nat) (ks:List Int),(∀r∈l,Sp B (A r))->Sp B (fun c=>dotL ks (fun r=>A r c) l)
 | [],ks,_=>by cases ks<;>exact .zero
 |r::rs,[],_=>.zero
 |r::rs,k::ks,h=>by
  refine Sp.congr (.add (.mul k (h r (by simp))) (dotL_sp rs ks (fun x hx=>h x (by simp[hx])))) fun c=>?_
  rfl
structure Stage (K N:Nat) (J:Nat->Nat) (R A:Nat->Vec):Prop where
 le:K<=N
 d0:det (zCU J A K) (zCO K)≠0
 low:∀i,K<=i->i<N->(∀k,k<K->R i (J k)=0)∧∃t s:Int,t≠0∧s≠0∧Sp (RB K A) (fun c=>t*R i c+s*A i c)
 up:∀p,p<K->Sp (RB K A) (R p)
 red:Red K J R
 org:∀p,p<K->Sp (RB K R) (A p)
theorem Stage.start(N:Nat)(J:Nat->Nat)(A:Nat->Vec):Stage 0 N J A A:=
 ⟨Nat.zero_le _,by simp[zCU,det],fun i _ _=>⟨fun k hk=>by omega,1,-1,by decide,by decide,Sp.zero.congr fun c=>by grind⟩,fun p hp=>by omega,⟨fun k hk=>by omega,fun k hk=>by omega⟩,fun p hp=>by omega⟩
def minorL(K:Nat)(J:Nat->Nat)(A:Nat->Vec)(i:Nat)(c:Nat):Int:=det ((fun r=>A r c)::zCU J A K) (i::zCO K)
theorem Stage.minor{K N:Nat}{J:Nat->Nat}{R A:Nat->Vec}(h:Stage K N J R A){i:Nat}(h1:K<=i)(h2:i<N):
 ∃x y:Int,x≠0∧y≠0∧∀c,x*R i c=y*minorL K J A i c:=by
 obtain⟨hz,t,s,ht,hs,hsp⟩:=h.low i h1 h2
 obtain⟨ks,hl,hh,hk⟩:=ex_sum (i::zCO K) (det (zCU J A K))
 have hh0:=hh i (zCO K) rfl
 match ks,hl,hh0,hk with
 |k0::ks,hl,hh0,hk=>
  have hk0:k0=det (zCU J A K) (zCO K):=by simpa using hh0
  have hd:k0≠0:=by rw[hk0];exact h.d0
  have hm:∀c,minorL K J A i c=k0*A i c+dotL ks (fun r=>A r c) (zCO K):=fun c=>hk (fun r=>A r c)
  -- k0 t R i+s D i
  have hv:Sp (RB K A) (fun c=>k0*(t*R i c+s*A i c)+s*dotL ks (fun r=>A r c) (zCO K)):=
   Sp.lin k0 s hsp (dotL_sp (zCO K) ks fun r hr=>RB.sp (zIW.1 hr))
  have hv':=hv.trans (B':=RB K R) (fun v ⟨p,hp,e⟩=>e▸h.org p hp)
  have h0:=h.red.zero hv' (fun k hk'=>by
   have e1:=hz k hk'
   have e2:minorL K J A i (J k)=0:=det_rep (zFU.2 ⟨k,hk',rfl⟩) _
   have e3:=hm (J k)
   rw[e2]at e3
   rw[e1]
   grind)
  refine⟨k0*t,-s,Int.mul_ne_zero hd ht,by omega,fun c=>?_⟩
  have:=h0 c
  rw[hm c]
  grind
 | [],hl,_,_=>simp at hl
def zBS(J:Nat->Nat)(A:Nat->Vec)(p:Nat):Nat->List (Nat->Int)
 |0=>[]
 |k+1=>if k=p then zBS J A p k else(fun r=>A r (J k))::zBS J A p k
theorem zGT{J:Nat->Nat}{A:Nat->Vec}{p:Nat}:∀{K k:Nat},k<K->k≠p->(fun r=>A r (J k))∈zBS J A p K
 |K+1,k,hk,hne=>by
  unfold zBS
  by_cases e:K=p
  ·rw[if_pos e];exact zGT (by omega) hne
  ·rw[if_neg e]
   by_cases e2:k=K
   ·subst e2;simp
   ·exact List.mem_cons_of_mem _ (zGT (by omega) hne)
theorem zDO{J:Nat->Nat}{A:Nat->Vec}{p:Nat}:∀{K:Nat} {x:Nat->Int},x∈zBS J A p K->∃k,k<K∧x=fun r=>A r (J k)
 |0,x,h=>by simp[zBS]at h
 |K+1,x,h=>by
  unfold zBS at h
  by_cases e:K=p
  ·rw[if_pos e]at h
   obtain⟨k,hk,rfl⟩:=zDO h;exact⟨k,by omega,rfl⟩
  ·rw[if_neg e]at h
   rcases List.mem_cons.1 h with rfl|h
   ·exact⟨K,by omega,rfl⟩
   ·obtain⟨k,hk,rfl⟩:=zDO h;exact⟨k,by omega,rfl⟩
theorem zMM{J:Nat->Nat}{A:Nat->Vec}{p:Nat}:∀{K:Nat},K<=p->zBS J A p K=zCU J A K
 |0,_=>rfl
 |K+1,h=>by unfold zBS zCU;rw[if_neg (by omega),zMM (by omega)]
theorem zGB{J:Nat->Nat}{A:Nat->Vec}{p:Nat}:∀{K:Nat},p<K->(∃s:Int,(s=1∨s= -1)∧∀l,det (zCU J A K) l=s*det ((fun r=>A r (J p))::zBS J A p K) l)∧(zBS J A p K).length+1=K
 |K+1,h=>by
  by_cases e:p=K
  ·subst e
   unfold zBS
   rw[if_pos rfl,zMM (Nat.le_refl _)]
   exact⟨⟨1,.inl rfl,fun l=>by rw[Int.one_mul];rfl⟩,by rw[zDC]⟩
  ·obtain⟨⟨s,hs,hl⟩,hn⟩:=zGB (K:=K) (A:=A) (J:=J) (show p<K by omega)
   unfold zBS
   rw[if_neg (by omega)]
   refine⟨⟨-s,by omega,fun l=>?_⟩,by simp;omega⟩
   show ex (fun r=>A r (J K)) (det (zCU J A K)) l= -s*ex (fun r=>A r (J p)) (ex (fun r=>A r (J K)) (det (zBS J A p K))) l
   have:det (zCU J A K)=fun m=>s*det ((fun r=>A r (J p))::zBS J A p K) m:=funext hl
   rw[this,ex_mul,zPM (fun r=>A r (J p))]
   show s*ex (fun r=>A r (J K)) (ex (fun r=>A r (J p)) (det (zBS J A p K))) l=_
   grind
def minorU(K:Nat)(J:Nat->Nat)(A:Nat->Vec)(p:Nat)(c:Nat):Int:=det ((fun r=>A r c)::zBS J A p K) (zCO K)
theorem Stage.minorU{K N:Nat}{J:Nat->Nat}{R A:Nat->Vec}(h:Stage K N J R A){p:Nat}(hp:p<K):
 (∃s:Int,(s=1∨s= -1)∧minorU K J A p (J p)=s*det (zCU J A K) (zCO K))∧∀c,R p (J p)*Go.Proofs.YtlffndehhhpgjaaGreat.minorU K J A p c=Go.Proofs.YtlffndehhhpgjaaGreat.minorU K J A p (J p)*R p c:=by
 obtain⟨⟨s,hs,hl⟩,hn⟩:=zGB (J:=J) (A:=A) hp
 refine⟨⟨s,hs,?_⟩,?_⟩
 ·have:=hl (zCO K)
  show det ((fun r=>A r (J p))::zBS J A p K) (zCO K)=_
  rw[this]
  rcases hs with rfl|rfl<;>grind
 ·obtain⟨ks,_,_,hk⟩:=ex_sum (zCO K) (det (zBS J A p K))
  have hv:Sp (RB K A) (Go.Proofs.YtlffndehhhpgjaaGreat.minorU K J A p):=(dotL_sp (zCO K) ks fun r hr=>RB.sp (zIW.1 hr)).congr fun c=>hk _
  have hv':=hv.trans (B':=RB K R) (fun v ⟨q,hq,e⟩=>e▸h.org q hq)
  exact h.red.ratio hv' hp (fun q hq hne=>det_rep (zGT hq hne) _)
structure Step (K N i j:Nat) (pi:Nat->Nat) (R R' A A':Nat->Vec):Prop where
 lo:K<=i
 hi:i<N
 ne:R i j≠0
 orgs:∀q,A' q=A (pi q)
 fix:∀q,q<K->pi q=q
 at':pi K=i
 rest:∀q,K<q->q<N->K<=pi q∧pi q<N
 surj:∀m,m<N->∃q,q<N∧pi q=m
 pivot:∃z:Int,z≠0∧∀c,R' K c=z*R i c
 other:∀q,q<N->q≠K->R' q j=0∧∃x y g:Int,x≠0∧g≠0∧∀c,g*R' q c=x*R (pi q) c+y*R i c
theorem zAV{g x:Int}(hg:g≠0)(h:g*x=0):x=0:=(Int.mul_eq_zero.1 h).resolve_left hg
theorem Stage.step{K N i j:Nat}{J:Nat->Nat}{pi:Nat->Nat}{R R' A A':Nat->Vec}(h:Stage K N J R A)(s:Step K N i j pi R R' A A')(J':Nat->Nat)(hJ:∀k,k<K->J' k=J k)(hJK:J' K=j):Stage (K+1) N J' R' A':=by
 obtain⟨hzi,ti,si,hti,hsi,hspi⟩:=h.low i s.lo s.hi
 obtain⟨z,hz,hzR⟩:=s.pivot
 have hiK:K<N:=Nat.lt_of_le_of_lt s.lo s.hi
 have hpiv:∀q,q<N->q≠K->∀k,k<K->R (pi q) (J k)=0->R' q (J k)=0:=by
  intro q hq hne k hk h0
  obtain⟨_,x,y,g,hx,hg,e⟩:=s.other q hq hne
  refine zAV hg ?_
  rw[e,h0,hzi k hk];simp
 have subA:∀v,RB K A v->Sp (RB (K+1) A') v:=by
  rintro v ⟨p,hp,rfl⟩
  have:A p=A' p:=by rw[s.orgs,s.fix p hp]
  rw[this];exact RB.sp (by omega)
 have hAi:Sp (RB (K+1) A') (A i):=by
  have:A i=A' K:=by rw[s.orgs,s.at']
  rw[this];exact RB.sp (by omega)
 -- R i lies in the span of the new first rows
 have hRi:Sp (RB (K+1) A') (R i):=by
  refine Sp.of_eq (n:=ti) (x:=1) (y:= -si) hti (hspi.trans subA) hAi fun c=>?_
  grind
 have hRi':Sp (RB (K+1) R') (R i):=Sp.div hz ((RB.sp (by omega:K<K+1)).congr fun c=>(hzR c).symm)
 have hRk':∀v,RB K R v->Sp (RB (K+1) R') v:=by
  rintro v ⟨k,hk,rfl⟩
  obtain⟨_,x,y,g,hx,hg,e⟩:=s.other k (by omega) (by omega)
  rw[s.fix k hk]at e
  refine Sp.of_eq (n:=x) (x:=g) (y:= -y) hx (RB.sp (by omega:k<K+1)) hRi' fun c=>?_
  have:=e c
  grind
 refine⟨by omega,?_,?_,?_,⟨?_,?_⟩,?_⟩
 ·-- the determinant
  obtain⟨x,y,hx,hy,hm⟩:=h.minor s.lo s.hi
  have hmj:=hm j
  have hpc:∀k,k<=K->zCU J' A' k=(zCU J A k).map (fun c a=>c (pi a)):=by
   intro k
   induction k with
   |zero=>intro _;rfl
   |succ k ih=>
    intro hk
    show(fun r=>A' r (J' k))::zCU J' A' k=(fun a=>A (pi a) (J k))::(zCU J A k).map (fun c a=>c (pi a))
    rw[ih (by omega),hJ k (by omega)]
    congr 1
    funext r
    rw[s.orgs]
  have e:det (zCU J' A' (K+1)) (zCO (K+1))=minorL K J A i j:=by
   show det ((fun r=>A' r (J' K))::zCU J' A' K) (K::zCO K)=det ((fun r=>A r j)::zCU J A K) (i::zCO K)
   have e1:(fun r=>A' r (J' K))::zCU J' A' K=((fun r=>A r j)::zCU J A K).map (fun c a=>c (pi a)):=by
    rw[hpc K (Nat.le_refl _),hJK]
    show _=(fun a=>A (pi a) j)::_
    congr 1
    funext r
    rw[s.orgs]
   have e2:i::zCO K=(K::zCO K).map pi:=by
    have:(zCO K).map pi=zCO K:=by
     conv=>rhs;rw[<- List.map_id (zCO K)]
     exact List.map_congr_left fun q hq=>s.fix q (zIW.1 hq)
    rw[List.map_cons,s.at',this]
   rw[e1,e2,det_map]
  rw[e]
  intro h0
  rw[h0]at hmj
  exact s.ne (zAV hx (by rw[hmj];simp))
 ·intro q h1 h2
  obtain⟨hj0,x,y,g,hx,hg,e⟩:=s.other q h2 (by omega)
  obtain⟨r1,r2⟩:=s.rest q (by omega) h2
  obtain⟨hzq,t,sq,ht,hsq,hspq⟩:=h.low (pi q) r1 r2
  refine⟨fun k hk=>?_,g*t*ti,ti*x*sq,Int.mul_ne_zero (Int.mul_ne_zero hg ht) hti,Int.mul_ne_zero (Int.mul_ne_zero hti hx) hsq,?_⟩
  ·by_cases c:k=K
   ·subst c;rw[hJK];exact hj0
   ·rw[hJ k (by omega)];exact hpiv q h2 (by omega) k (by omega) (hzq k (by omega))
  ·have h3:=Sp.add (Sp.mul (ti*x) (hspq.trans subA)) (Sp.mul (t*ti*y) hRi)
   refine h3.congr fun c=>?_
   have:=e c
   rw[s.orgs q]
   grind
 ·intro p hp
  by_cases c:p=K
  ·subst c
   exact(Sp.mul z hRi).congr hzR
  ·obtain⟨_,x,y,g,hx,hg,e⟩:=s.other p (by omega) c
   rw[s.fix p (by omega)]at e
   exact Sp.of_eq (n:=g) (x:=x) (y:=y) hg ((h.up p (by omega)).trans subA) hRi e
 ·intro k hk
  by_cases c:k=K
  ·subst c
   rw[hJK,hzR]
   exact Int.mul_ne_zero hz s.ne
  ·obtain⟨_,x,y,g,hx,hg,e⟩:=s.other k (by omega) c
   rw[s.fix k (by omega)]at e
   rw[hJ k (by omega)]
   intro h0
   have:=e (J k)
   rw[h0,hzi k (by omega)]at this
   have h1:=h.red.piv k (by omega)
   have:x*R k (J k)=0:=by grind
   exact h1 (zAV hx this)
 ·intro k hk q hq hne
  by_cases c:k=K
  ·subst c
   rw[hzR,hJ q (by omega),hzi q (by omega)];simp
  ·by_cases c2:q=K
   ·subst c2
    rw[hJK];exact(s.other k (by omega) c).1
   ·rw[hJ q (by omega)]
    exact hpiv k (by omega) c q (by omega) (by rw[s.fix k (by omega)];exact h.red.off k (by omega) q (by omega) hne)
 ·intro p hp
  by_cases c:p=K
  ·subst c
   rw[s.orgs,s.at']
   have h1:Sp (RB (p+1) R') (fun c=>ti*R i c+si*A i c):=(hspi.trans (B':=RB p R) (fun v ⟨q,hq,e⟩=>e▸h.org q hq)).trans hRk'
   refine Sp.of_eq (n:=si) (x:=1) (y:= -ti) hsi h1 hRi' fun c=>?_
   grind
  ·rw[s.orgs,s.fix p (by omega)]
   exact(h.org p (by omega)).trans hRk'
end
section
def Prim(V:Vec):Prop:=∀g:Int,(∀c,g∣V c)->g∣1
theorem zLL{V W:Vec}{x y:Int}(hx:x≠0)(h:∀c,x*V c=y*W c)(hp:Prim V)(c:Nat):(V c).natAbs<=(W c).natAbs:=by
 have hg:0<Nat.gcd x.natAbs y.natAbs:=Nat.gcd_pos_of_pos_left _ (by omega)
 obtain⟨g,hge⟩:=exq (Nat.gcd x.natAbs y.natAbs)
 have e1:x.natAbs/g*g=x.natAbs:=by rw[hge];exact Nat.div_mul_cancel (Nat.gcd_dvd_left _ _)
 have e2:y.natAbs/g*g=y.natAbs:=by rw[hge];exact Nat.div_mul_cancel (Nat.gcd_dvd_right _ _)
 have hco:Nat.Coprime (x.natAbs/g) (y.natAbs/g):=by rw[hge]at*;exact Nat.coprime_div_gcd_div_gcd hg
 rw[<- hge]at hg
 have hn:∀c,x.natAbs/g*(V c).natAbs=y.natAbs/g*(W c).natAbs:=by
  intro c
  have h1:x.natAbs*(V c).natAbs=y.natAbs*(W c).natAbs:=by rw[<- Int.natAbs_mul,<- Int.natAbs_mul,h c]
  rw[<- e1,<- e2]at h1
  refine Nat.eq_of_mul_eq_mul_left hg ?_
  rw[<- Nat.mul_assoc,<- Nat.mul_assoc,Nat.mul_comm g,Nat.mul_comm g]
  exact h1
 have hd:∀c,((y.natAbs/g:Nat):Int)∣V c:=by
  intro c
  refine Int.ofNat_dvd_left.2 ?_
  refine Nat.Coprime.dvd_of_dvd_mul_left hco.symm (m:=x.natAbs/g) ?_
  rw[hn c];exact Nat.dvd_mul_right _ _
 have h1:y.natAbs/g=1:=by
  have:=hp _ hd
  have:=Int.ofNat_dvd_left.1 this
  exact Nat.dvd_one.1 this
 have h2:=hn c
 rw[h1,Nat.one_mul]at h2
 have h3:0<x.natAbs/g:=by
  rcases Nat.eq_zero_or_pos (x.natAbs/g)with h|h
  ·rw[h]at e1;omega
  ·exact h
 rw[<- h2]
 exact Nat.le_mul_of_pos_left _ h3
theorem zLA{a B:Int}(h: -B<=a∧a<=B):a.natAbs<=B.toNat:=by omega
theorem Stage.low_le{K N:Nat}{J:Nat->Nat}{R A:Nat->Vec}(h:Stage K N J R A)(h1:∀k,k<K->∀r,-1<=A r (J k)∧A r (J k)<=1){i:Nat}(hi1:K<=i)(hi2:i<N)(hp:Prim (R i))
 {c:Nat}{Y:Int}(hY:∀r,-Y<=A r c∧A r c<=Y):(R i c).natAbs<=((K+1:Nat)*(Y*fact K)).toNat:=by
 obtain⟨x,y,hx,_,e⟩:=h.minor hi1 hi2
 refine Nat.le_trans (zLL hx e hp c) (zLA ?_)
 have:=det_le2 (c:=fun r=>A r c) hY (zCU J A K) (fun d hd r=>by obtain⟨k,hk,rfl⟩:=zFU.1 hd;exact h1 k hk r) (i::zCO K) (by simp[zDC,zEY])
 rw[zDC]at this
 exact this
theorem Stage.up_le{K N:Nat}{J:Nat->Nat}{R A:Nat->Vec}(h:Stage K N J R A)(h1:∀k,k<K->∀r,-1<=A r (J k)∧A r (J k)<=1){p:Nat}(hp:p<K)(hpr:Prim (R p))
 {c:Nat}{Y:Int}(hY:∀r,-Y<=A r c∧A r c<=Y):(R p c).natAbs<=((K:Nat)*(Y*fact (K-1))).toNat:=by
 obtain⟨⟨s,hs,e0⟩,e⟩:=h.minorU hp
 have hx:Go.Proofs.YtlffndehhhpgjaaGreat.minorU K J A p (J p)≠0:=by
  rw[e0];have:=h.d0
  rcases hs with rfl|rfl<;>omega
 refine Nat.le_trans (zLL hx (fun c=>(e c).symm) hpr c) (zLA ?_)
 have hl:=(zGB (J:=J) (A:=A) hp).2
 have:=det_le2 (c:=fun r=>A r c) hY (zBS J A p K) (fun d hd r=>by obtain⟨k,hk,rfl⟩:=zDO hd;exact h1 k hk r) (zCO K) (by rw[zEY];exact hl.symm)
 rw[hl,show(zBS J A p K).length=K-1 by omega]at this
 exact this
theorem Stage.piv_dvd{K N:Nat}{J:Nat->Nat}{R A:Nat->Vec}(h:Stage K N J R A){p:Nat}(hp:p<K)(hpr:Prim (R p)):R p (J p)∣det (zCU J A K) (zCO K):=by
 obtain⟨⟨s,hs,e0⟩,e⟩:=h.minorU hp
 obtain⟨d,hd⟩:=exq (det (zCU J A K) (zCO K))
 rw[<- hd]at e0⊢
 -- R p (J p)*E c=(s d)*R p c;the row has no common divisor
 rw[e0]at e
 obtain⟨x,hx⟩:=exq (R p (J p))
 rw[<- hx]at e⊢
 have hx0:x≠0:=by rw[hx];exact h.red.piv p hp
 have hg:0<Nat.gcd x.natAbs d.natAbs:=Nat.gcd_pos_of_pos_left _ (by omega)
 obtain⟨g,hge⟩:=exq (Nat.gcd x.natAbs d.natAbs)
 have e1:x.natAbs/g*g=x.natAbs:=by rw[hge];exact Nat.div_mul_cancel (Nat.gcd_dvd_left _ _)
 have e2:d.natAbs/g*g=d.natAbs:=by rw[hge];exact Nat.div_mul_cancel (Nat.gcd_dvd_right _ _)
 have hco:Nat.Coprime (x.natAbs/g) (d.natAbs/g):=by rw[hge]at*;exact Nat.coprime_div_gcd_div_gcd hg
 rw[<- hge]at hg
 have hsd:(s*d).natAbs=d.natAbs:=by rcases hs with rfl|rfl<;>simp
 have hdv:∀c,((x.natAbs/g:Nat):Int)∣R p c:=by
  intro c
  refine Int.ofNat_dvd_left.2 ?_
  refine Nat.Coprime.dvd_of_dvd_mul_left hco (m:=d.natAbs/g) ?_
  have h1:x.natAbs*(Go.Proofs.YtlffndehhhpgjaaGreat.minorU K J A p c).natAbs=d.natAbs*(R p c).natAbs:=by rw[<- Int.natAbs_mul,e c,Int.natAbs_mul,hsd]
  rw[<- e1,<- e2]at h1
  have h2:x.natAbs/g*(Go.Proofs.YtlffndehhhpgjaaGreat.minorU K J A p c).natAbs=d.natAbs/g*(R p c).natAbs:=by
   refine Nat.eq_of_mul_eq_mul_left hg ?_
   rw[<- Nat.mul_assoc,<- Nat.mul_assoc,Nat.mul_comm g,Nat.mul_comm g]
   exact h1
  rw[<- h2];exact Nat.dvd_mul_right _ _
 have h1:x.natAbs/g=1:=Nat.dvd_one.1 (Int.ofNat_dvd_left.1 (hpr _ hdv))
 rw[h1,Nat.one_mul]at e1
 rw[<- Int.natAbs_dvd_natAbs,<- e1,<- e2]
 exact Nat.dvd_mul_left _ _
structure Ech (K:Nat) (J:Nat->Nat) (R:Nat->Vec):Prop where
 red:Red K J R
 lead:∀k,k<K->∀c,c<J k->R k c=0
 asc:∀k q,k<q->q<K->J k<J q
theorem Ech.pivot_iff{K:Nat}{J:Nat->Nat}{R:Nat->Vec}(h:Ech K J R)(j:Nat):(∃k,k<K∧J k=j)↔∃v,Sp (RB K R) v∧v j≠0∧∀c,c<j->v c=0:=by
 constructor
 ·rintro⟨k,hk,rfl⟩
  exact⟨R k,RB.sp hk,h.red.piv k hk,h.lead k hk⟩
 ·rintro⟨v,hv,hj,h0⟩
  rcases Classical.em (∃k,k<K∧J k=j)with c|c
  ·exact c
  ·exfalso
   obtain⟨D,hD,e,hr⟩:=h.red.repr
   have:=hr v hv j
   rw[zAL (g:=fun _=>0) (fun k hk=>?_),zFH]at this
   ·rcases Int.mul_eq_zero.1 this with h|h
    ·exact hD h
    ·exact hj h
   ·rcases Nat.lt_trichotomy (J k) j with h1|h1|h1
    ·simp[h0 _ h1]
    ·exact absurd ⟨k,hk,h1⟩ c
    ·rw[h.lead k hk j h1];simp
theorem asc_eq:∀{l m:List Nat},l.Pairwise (· < ·)->m.Pairwise (· < ·)->(∀x,x∈l↔x∈m)->l=m
 | [],[],_,_,_=>rfl
 | [],b::m,_,_,h=>by have:=(h b).2 (by simp);simp at this
 |a::l,[],_,_,h=>by have:=(h a).1 (by simp);simp at this
 |a::l,b::m,hl,hm,h=>by
  rw[List.pairwise_cons]at hl hm
  have e:a=b:=by
   rcases List.mem_cons.1 ((h a).1 (by simp))with e|e
   ·exact e
   ·have h1:=hm.1 a e
    rcases List.mem_cons.1 ((h b).2 (by simp))with e'|e'
    ·omega
    ·have:=hl.1 b e';omega
  subst e
  rw[asc_eq hl.2 hm.2 fun x=>?_]
  constructor
  ·intro hx
   have h1:=hl.1 x hx
   rcases List.mem_cons.1 ((h x).1 (by simp[hx]))with e|e
   ·omega
   ·exact e
  ·intro hx
   have h1:=hm.1 x hx
   rcases List.mem_cons.1 ((h x).2 (by simp[hx]))with e|e
   ·omega
   ·exact e
theorem Ech.asc_list{K:Nat}{J:Nat->Nat}{R:Nat->Vec}(h:Ech K J R):((List.range K).map J).Pairwise (· < ·):=by
 rw[List.pairwise_map]
 refine(List.pairwise_lt_range (n:=K)).imp_of_mem fun {a b} ha hb hab=>?_
 exact h.asc a b hab (by simpa using hb)
theorem Ech.unique{K K':Nat}{J J':Nat->Nat}{R R':Nat->Vec}(h:Ech K J R)(h':Ech K' J' R')(h1:∀k,k<K->Sp (RB K' R') (R k))(h2:∀k,k<K'->Sp (RB K R) (R' k)):
 K=K'∧(∀k,k<K->J k=J' k)∧∀k,k<K->∀c,R' k (J k)*R k c=R k (J k)*R' k c:=by
 have hs:∀v,Sp (RB K R) v↔Sp (RB K' R') v:=fun v=>⟨fun hv=>hv.trans fun u ⟨k,hk,e⟩=>e▸h1 k hk,fun hv=>hv.trans fun u ⟨k,hk,e⟩=>e▸h2 k hk⟩
 have hl:(List.range K).map J=(List.range K').map J':=by
  refine asc_eq h.asc_list h'.asc_list fun x=>?_
  simp only[List.mem_map,List.mem_range]
  rw[h.pivot_iff,h'.pivot_iff]
  constructor
  ·rintro⟨v,hv,r⟩;exact⟨v,(hs v).1 hv,r⟩
  ·rintro⟨v,hv,r⟩;exact⟨v,(hs v).2 hv,r⟩
 have hK:K=K':=by have:=congrArg List.length hl;simpa using this
 subst hK
 have hJ:∀k,k<K->J k=J' k:=by
  intro k hk
  have:=congrArg (fun l=>l[k]?) hl
  simpa[hk]using this
 refine⟨rfl,hJ,fun k hk c=>?_⟩
 have hv:=h1 k hk
 have:=h'.red.ratio hv hk (fun q hq hne=>by rw[<- hJ q hq];exact h.red.off k hk q hq (Ne.symm hne)) c
 rw[<- hJ k hk]at this
 exact this
theorem prim_eq{V W:Vec}{x y:Int}(hx:0<x)(hy:0<y)(h:∀c,x*V c=y*W c)(hV:Prim V)(hW:Prim W)(c:Nat):V c=W c:=by
 have h1:=zLL (by omega) h hV c
 have h2:=zLL (by omega) (fun c=>(h c).symm) hW c
 have h3:=h c
 rcases Int.lt_trichotomy (V c) 0 with a|a|a
 ·have:x*V c<0:=Int.mul_neg_of_pos_of_neg hx a
  rcases Classical.em (W c<0)with b|b
  ·omega
  ·have:=Int.mul_nonneg (Int.le_of_lt hy) (show 0<=W c by omega);omega
 ·omega
 ·have:0<x*V c:=Int.mul_pos hx a
  rcases Classical.em (0<W c)with b|b
  ·omega
  ·have:=Int.mul_nonneg (Int.le_of_lt hy) (show 0<= -W c by omega)
   rw[Int.mul_neg]at this;omega
end
section
def vec(l:List Int):Vec:=fun c=>l[c]?.getD 0
theorem zCY{l:List Int}{c:Nat}(h:c<l.length):vec l c=l[c]:=by simp[vec,h]
theorem zFK{l:List Int}{c:Nat}(h:l.length<=c):vec l c=0:=by simp[vec,h]
theorem zED{l:List Int}{P:Int->Prop}(h0:P 0)(h:∀x∈l,P x)(c:Nat):P (vec l c):=by
 rcases Nat.lt_or_ge c l.length with hc|hc
 ·rw[zCY hc];exact h _ (List.getElem_mem hc)
 ·rw[zFK hc];exact h0
theorem zKC{l:List Int}{P:Int->Prop}(h:∀c,P (vec l c)):∀x∈l,P x:=by
 intro x hx
 obtain⟨c,hc,rfl⟩:=List.mem_iff_getElem.1 hx
 rw[<- zCY hc];exact h c
theorem vec_map{f:Int->Int}(h0:f 0=0)(l:List Int)(c:Nat):vec (l.map f) c=f (vec l c):=by
 rcases Nat.lt_or_ge c l.length with hc|hc
 ·rw[zCY (by simpa using hc),zCY hc];simp
 ·rw[zFK (by simpa using hc),zFK hc,h0]
theorem vec_zip{f:Int->Int->Int}(h0:f 0 0=0){l m:List Int}(hl:l.length=m.length)(c:Nat):vec (List.zipWith f l m) c=f (vec l c) (vec m c):=by
 rcases Nat.lt_or_ge c l.length with hc|hc
 ·rw[zCY (by simp;omega),zCY hc,zCY (by omega)];simp
 ·rw[zFK (by simp;omega),zFK hc,zFK (by omega),h0]
def gcdL(l:List Int):Int:=l.foldl (fun g n=>((Int.gcd g n:Nat):Int)) 0
theorem zNB(l:List Int):∀g:Int,0<=g->0<=l.foldl (fun g n=>((Int.gcd g n:Nat):Int)) g∧(l.foldl (fun g n=>((Int.gcd g n:Nat):Int)) g∣g)∧(∀x∈l,l.foldl (fun g n=>((Int.gcd g n:Nat):Int)) g∣x)∧∀d,d∣g->(∀x∈l,d∣x)->d∣l.foldl (fun g n=>((Int.gcd g n:Nat):Int)) g:=by
 induction l with
 |nil=>intro g hg;exact⟨hg,Int.dvd_refl _,by simp,fun d h _=>h⟩
 |cons n l ih=>
  intro g hg
  obtain⟨h1,h2,h3,h4⟩:=ih ((Int.gcd g n:Nat):Int) (Int.natCast_nonneg _)
  refine⟨h1,Int.dvd_trans h2 (Int.gcd_dvd_left ..),fun x hx=>?_,fun d hd hl=>?_⟩
  ·rcases List.mem_cons.1 hx with rfl|hx
   ·exact Int.dvd_trans h2 (Int.gcd_dvd_right ..)
   ·exact h3 x hx
  ·exact h4 d (Int.dvd_coe_gcd hd (hl n (by simp))) (fun x hx=>hl x (by simp[hx]))
theorem zGE(l:List Int):0<=gcdL l:=(zNB l 0 (Int.le_refl _)).1
theorem zLP{l:List Int}{x:Int}(h:x∈l):gcdL l∣x:=(zNB l 0 (Int.le_refl _)).2.2.1 x h
theorem zPN{l:List Int}{d:Int}(h:∀x∈l,d∣x):d∣gcdL l:=(zNB l 0 (Int.le_refl _)).2.2.2 d (Int.dvd_zero _) h
theorem gcdL_zero{l:List Int}(h:gcdL l=0):∀x∈l,x=0:=fun x hx=>by have:=zLP hx;rw[h]at this;exact Int.zero_dvd.1 this
def zBW(l:List Int):List Int:=if 1<gcdL l then l.map (fun x=>x.tdiv (gcdL l))else l
theorem zDH(l:List Int):(zBW l).length=l.length:=by unfold zBW;split<;>simp
theorem zCB(l:List Int):∃g:Int,0<g∧∀c,g*vec (zBW l) c=vec l c:=by
 unfold zBW
 by_cases h:1<gcdL l
 ·rw[if_pos h]
  refine⟨gcdL l,by omega,fun c=>?_⟩
  rw[vec_map (by simp)]
  exact Int.mul_tdiv_cancel' (zED (P:=fun x=>gcdL l∣x) (Int.dvd_zero _) (fun x hx=>zLP hx) c)
 ·rw[if_neg h];exact⟨1,by decide,fun c=>by simp⟩
theorem zDR(l:List Int):Prim (vec (zBW l))∨∀c,vec (zBW l) c=0:=by
 by_cases h0:gcdL l=0
 ·right
  have hz:=gcdL_zero h0
  unfold zBW
  rw[if_neg (by omega)]
  exact fun c=>zED (P:=fun x=>x=0) rfl hz c
 ·left
  have hn:=zGE l
  intro d hd
  unfold zBW at hd
  by_cases h:1<gcdL l
  ·rw[if_pos h]at hd
   have:gcdL l*d∣gcdL l:=by
    refine zPN fun x hx=>?_
    obtain⟨c,hc,rfl⟩:=List.mem_iff_getElem.1 hx
    have h1:=hd c
    rw[vec_map (by simp),zCY hc]at h1
    obtain⟨k,hk⟩:=h1
    have h2:=Int.mul_tdiv_cancel' (zLP hx)
    refine⟨k,?_⟩
    rw[hk]at h2
    rw[<- h2];grind
   obtain⟨k,hk⟩:=this
   have h3:d*k=1:=by
    refine Int.eq_of_mul_eq_mul_left (show gcdL l≠0 by omega) ?_
    rw[Int.mul_one,<- Int.mul_assoc];exact hk.symm
   exact⟨k,h3.symm⟩
  ·rw[if_neg h]at hd
   have h1:gcdL l=1:=by omega
   rw[<- h1]
   exact zPN (zKC hd)
def zGH(row by':List Int)(j:Nat):List Int:=
 let a:=vec row j
 let b:=vec by' j
 let g:Int:=(Int.gcd a b:Nat)
 zBW (List.zipWith (fun x y=>x*(b.tdiv g)-y*(a.tdiv g)) row by')
theorem zON{row by':List Int}(h:row.length=by'.length)(j:Nat):(zGH row by' j).length=row.length:=by
 unfold zGH;rw[zDH];simp;omega
theorem clearF_prim(row by':List Int)(j:Nat):Prim (vec (zGH row by' j))∨∀c,vec (zGH row by' j) c=0:=zDR _
theorem clearF_mul{row by':List Int}(h:row.length=by'.length){j:Nat}(hb:0<vec by' j):
 vec (zGH row by' j) j=0∧∃x y g:Int,x≠0∧0<x∧0<g∧∀c,g*vec (zGH row by' j) c=x*vec row c+y*vec by' c:=by
 obtain⟨g,hg,e⟩:=zCB (List.zipWith (fun x y=>x*((vec by' j).tdiv (Int.gcd (vec row j) (vec by' j):Nat))-y*((vec row j).tdiv (Int.gcd (vec row j) (vec by' j):Nat))) row by')
 have e':∀c,g*vec (zGH row by' j) c=vec row c*((vec by' j).tdiv (Int.gcd (vec row j) (vec by' j):Nat))-vec by' c*((vec row j).tdiv (Int.gcd (vec row j) (vec by' j):Nat)):=by
  intro c
  have:=e c
  rw[vec_zip (by simp) h]at this
  exact this
 obtain⟨a,ha⟩:=exq (vec row j)
 obtain⟨b,hbb⟩:=exq (vec by' j)
 rw[<- ha,<- hbb]at e'
 rw[<- hbb]at hb
 obtain⟨d,hd⟩:∃d:Int,d=(Int.gcd a b:Nat):=⟨_,rfl⟩
 rw[<- hd]at e'
 have hd0:0<d:=by
  rw[hd]
  have:0<Int.gcd a b:=Int.gcd_pos_of_ne_zero_right _ (by omega)
  omega
 have d1:d*a.tdiv d=a:=Int.mul_tdiv_cancel' (by rw[hd];exact Int.gcd_dvd_left ..)
 have d2:d*b.tdiv d=b:=Int.mul_tdiv_cancel' (by rw[hd];exact Int.gcd_dvd_right ..)
 obtain⟨a1,ha1⟩:=exq (a.tdiv d)
 obtain⟨b1,hb1⟩:=exq (b.tdiv d)
 rw[<- ha1]at d1 e'
 rw[<- hb1]at d2 e'
 have hb1p:0<b1:=by
  rcases Int.lt_trichotomy b1 0 with h|h|h
  ·have:=Int.mul_neg_of_pos_of_neg hd0 h;omega
  ·subst h;simp at d2;omega
  ·exact h
 refine⟨?_,b1,-a1,g,by omega,hb1p,hg,fun c=>by rw[e' c];grind⟩
 have:=e' j
 rw[<- ha,<- hbb,<- d1,<- d2]at this
 exact zAV (g:=g) (by omega) (by rw[this];grind)
def negF(l:List Int):List Int:=l.map (fun x=> -x)
theorem zLN(l:List Int)(c:Nat):vec (negF l) c= -vec l c:=vec_map (by simp) l c
def posF(l:List Int)(j:Nat):List Int:=if vec l j<0 then negF l else l
theorem zIQ(l:List Int)(j:Nat):(posF l j).length=l.length:=by unfold posF negF;split<;>simp
theorem zIP(l:List Int)(j:Nat):∃z:Int,(z=1∨z= -1)∧∀c,vec (posF l j) c=z*vec l c:=by
 unfold posF
 split
 ·exact⟨-1,.inr rfl,fun c=>by rw[zLN];omega⟩
 ·exact⟨1,.inl rfl,fun c=>by omega⟩
theorem zIO{l:List Int}{j:Nat}(h:vec l j≠0):0<vec (posF l j) j:=by
 unfold posF
 split
 ·rw[zLN];omega
 ·omega
theorem zPC{V W:Vec}{z:Int}(hz:z=1∨z= -1)(h:∀c,W c=z*V c)(hp:Prim V):Prim W:=by
 intro g hg
 refine hp g fun c=>?_
 have:=hg c
 rw[h]at this
 rcases hz with rfl|rfl
 ·simpa using this
 ·obtain⟨k,hk⟩:=this
  exact⟨-k,by grind⟩
end
end
section
open Go.RowKit
theorem zJF(w:World)(a b:Nat):(w.drewN a).drewN b=w.drewN (a+b):=by simp[World.drewN,Nat.add_assoc]
theorem gcd_mod(x y:Nat)(hy:0<y):Nat.gcd y (x%y)=Nat.gcd x y:=by rw[Nat.gcd_comm x y,Nat.gcd_rec y x,Nat.gcd_comm]
theorem zJG(w:World)(a b:Int)(ha: -4611686018427387904<=a∧a<=4611686018427387904)(hb: -4611686018427387904<=b∧b<=4611686018427387904):
 Calls Tryz.prog 206 #[.int .i64 a,.int .i64 b] w fun e w'=>e=.returned (.int .i64 (Int.gcd a b:Nat))∧∃k,w'=w.drewN k:=by
 obtain⟨x,hx⟩:∃x:Nat,x=a.natAbs:=⟨_,rfl⟩
 obtain⟨y,hy⟩:∃y:Nat,y=b.natAbs:=⟨_,rfl⟩
 have HG:=hid (show Nat.gcd x y=Int.gcd a b by rw[hx,hy];rfl)
 have hx2:x<=4611686018427387904:=by omega
 have hy2:y<=4611686018427387904:=by omega
 obtain⟨ha1,ha2⟩:=ha
 obtain⟨hb1,hb2⟩:=hb
 rcases Int.lt_or_le a 0 with sa|sa<;>rcases Int.lt_or_le b 0 with sb|sb
 all_goals
  have HX:=hid hx
  have HY:=hid hy
  clear hx hy
  go_enter Tryz.func206,Tryz.ntmps206
  go_wp2
  go_loopw [0,1] (fun u v wr=>∃p q:Nat,u=.int .i64 p∧v=.int .i64 q∧p<=4611686018427387904∧q<=4611686018427387904∧Nat.gcd p q=Nat.gcd x y∧∃k,wr=w.drewN k) (fun _ v _=>(intOf v).toNat)
  case atStart=>
   have h1:=HX.out
   have h2:=HY.out
   exact⟨x,y,by congr 1;omega,by congr 1;omega,hx2,hy2,rfl,0,rfl⟩
  case round=>
   obtain⟨p,q,rfl,rfl,hp,hq,hg,k,rfl⟩:=hrel
   have HGG:=hid hg
   clear hg
   by_cases h0:q=0
   ·subst h0
    go_wp2
    go_ret
    refine⟨zDB ?_,_,rfl⟩
    have h1:=HGG.out
    rw[Nat.gcd_zero_right]at h1
    rw[h1,HG.out]
   ·have hq1:1<=q:=by omega
    have hne:((q:Int) !=0)=true:=by simp;omega
    clear h0
    have hm1:p%q<q:=Nat.mod_lt _ hq1
    have hgm:=gcd_mod p q hq1
    have HGM:=hid (hgm.trans HGG.out)
    have HM:=hid hm1
    have HE:=hid (show((p:Int)% (q:Int))=((p%q:Nat):Int)by simp)
    clear hgm hm1
    go_wp2
    go_quiet (fail)
    go_wp2
    have hm1:=HM.out
    exact⟨⟨q,p%q,rfl,by rw[HE.out],hq,by omega,HGM.out,_,zJF _ _ _⟩,by rw[HE.out];simp[intOf];omega⟩
end
section
open Go.RowKit
theorem zKA(n lo hi:Int)(w:World):Calls Tryz.prog 131 #[.int .i64 n,.int .i64 lo,.int .i64 hi] w fun e w'=>e=.returned (.bool (inB n lo hi))∧w=w':=by
 by_cases h1:lo<=n<;>by_cases h2:n<=hi
 all_goals
  go_enter Tryz.func131,Tryz.ntmps131
  go_wp2
  go_ret
  exact⟨zAT (by simp[inB,h1,h2]),rfl⟩
theorem zHE(n lo hi:Int)(w:World):Calls Tryz.prog 174 #[.int .i64 n,.int .i64 lo,.int .i64 hi] w fun e w'=>e=.returned (.bool (inB n lo hi))∧w=w':=by
 by_cases h1:lo<=n<;>by_cases h2:n<=hi
 all_goals
  go_enter Tryz.func174,Tryz.ntmps174
  go_wp2
  go_ret
  exact⟨zAT (by simp[inB,h1,h2]),rfl⟩
theorem zHO{α:Type}{p:α->Bool}{l:List α}{k:Nat}(hk:k<l.length)(h:p l[k]=false):l.all p=false:=by
 rw[List.all_eq_false];exact⟨l[k],List.getElem_mem hk,by simp[h]⟩
theorem zJK{α:Type}{p:α->Bool}{l:List α}(h:∀j (hj:j<l.length),p l[j]=true):l.all p=true:=by
 rw[List.all_eq_true]
 intro x hx
 obtain⟨i,hi,e⟩:=List.getElem_of_mem hx
 rw[<- e];exact h i hi
theorem r2row_c(w:World)(a:Option Addr)(n cap:Nat)(l:List Int)(hn:l.length=n)(hm:n<=maxLen)(H:zAI w a l):
 Calls Tryz.prog 130 #[.slice a n cap] w fun e w'=>e=.returned (.bool (zGR l))∧w=w':=by
 have HN:=hid hn
 have HH:=hid H
 clear hn H
 unfold maxLen at hm
 go_enter Tryz.func130,Tryz.ntmps130
 go_wp2
 go_loop [7] (fun i=>∃k:Nat,k<=n∧i=.int .i64 k∧∀j (hj:j<l.length),j<k->inB l[j] (-1) 1=true) (fun i=>n-(intOf i).toNat)
 case atStart=>exact⟨0,Nat.zero_le _,rfl,fun i _ h=>by omega⟩
 case round=>
  obtain⟨k,hk,rfl,hno⟩:=hrel
  have HNO:=hid hno
  clear hno
  by_cases hlt:k<n
  ·have hkl:k<l.length:=by rw[HN.out];exact hlt
   obtain⟨b,off,rfl,hbs,hc⟩:=HH.out k hkl
   have hg:l[k]?.getD 0=l[k]:=by rw[List.getElem?_eq_getElem hkl];rfl
   rw[hg]at hc
   obtain⟨B,hB⟩:=exq (inB l[k] (-1) 1)
   have HW:=hid (fun W=>zKA l[k] (-1) 1 W)
   rw[<- hB]at HW
   have HBB:=hid hB
   have HKL:=hid hkl
   clear hg hB
   cases B
   ·go_wp2_with (go_at_call 131;refine(HW.out _).mono ?_;rintro e w1 ⟨rfl,rfl⟩)
    go_ret
    refine⟨zAT ?_,rfl⟩
    unfold zGR
    rw[zHO HKL.out HBB.out.symm];simp
   ·go_wp2_with (go_at_call 131;refine(HW.out _).mono ?_;rintro e w1 ⟨rfl,rfl⟩)
    go_round
    case rel=>
     refine⟨k+1,by omega,by go_num,fun j hj hjk=>?_⟩
     by_cases e:j=k
     ·subst e;exact HBB.out.symm
     ·exact HNO.out j hj (by omega)
    case measure=>simp[intOf];omega
  ·go_wp2_with (go_at_call 131;refine(zKA _ _ _ _).mono ?_;rintro e w1 ⟨rfl,rfl⟩)
   go_ret
   refine⟨zAT ?_,rfl⟩
   unfold zGR
   rw[HN.out,zJK (fun j hj=>HNO.out j hj (by have:=HN.out;omega))];simp
theorem r2Valid_c(w:World)(a:Option Addr)(n cap:Nat)(M:Mask)(hn:M.length=n)(hm:n<=maxLen)(H:zAN w a M):
 Calls Tryz.prog 68 #[.slice a n cap] w fun e w'=>e=.returned (.bool (okM M))∧w=w':=by
 have HN:=hid hn
 have HH:=hid H
 clear hn H
 unfold maxLen at hm
 go_enter Tryz.func68,Tryz.ntmps68
 go_wp2
 go_loop [7] (fun i=>∃k:Nat,k<=n∧i=.int .i64 k∧∀j (hj:j<M.length),j<k->(decide (M[j].length=zAC M)&&zGR M[j])=true) (fun i=>n-(intOf i).toNat)
 case atStart=>exact⟨0,Nat.zero_le _,rfl,fun i _ h=>by omega⟩
 case round=>
  obtain⟨k,hk,rfl,hno⟩:=hrel
  have HNO:=hid hno
  clear hno
  by_cases hlt:k<n
  ·have hkl:k<M.length:=by rw[HN.out];exact hlt
   obtain⟨b,off,ra,rn,rc,rfl,hbs,hc,hrn,hrm,hri⟩:=HH.out k hkl
   obtain⟨b',off',qa,qn,qc,e0,hbs',hc0,hqn,_,_⟩:=HH.out 0 (by omega)
   cases e0
   rw[Nat.add_zero]at hc0
   have hcol:zAC M=qn:=by unfold zAC;rw[List.getElem?_eq_getElem (by omega),<- hqn];rfl
   have HW:=hid (r2row_c w ra rn rc M[k] hrn hrm hri)
   obtain⟨B,hB⟩:=exq (zGR M[k])
   rw[<- hB]at HW
   have HBB:=hid hB
   have HKL:=hid hkl
   have HCol:=hid hcol
   have HRN:=hid hrn
   unfold maxLen at hrm
   have h0:0<n:=by omega
   clear hB hcol hrn hqn hri
   cases B
   ·go_wp2_with (go_at_call 130;refine HW.out.mono ?_;rintro e w1 ⟨rfl,rfl⟩)
    go_ret
    refine⟨zAT ?_,rfl⟩
    unfold okM
    rw[zHO HKL.out (by rw[<- HBB.out];simp)];simp
   ·by_cases hq:rn=qn
    ·have hd:((rn:Int) !=(qn:Int))=false:=by simp[hq]
     have HQ:=hid hq
     clear hq
     go_wp2_with (go_at_call 130;refine HW.out.mono ?_;rintro e w1 ⟨rfl,rfl⟩)
     go_round
     case rel=>
      refine⟨k+1,by omega,by go_num,fun j hj hjk=>?_⟩
      by_cases e:j=k
      ·subst e;rw[<- HBB.out,HCol.out,HRN.out,HQ.out];simp
      ·exact HNO.out j hj (by omega)
     case measure=>simp[intOf];omega
    ·have hd:((rn:Int) !=(qn:Int))=true:=by simp;omega
     have HQ:=hid hq
     clear hq
     go_wp2_with (go_at_call 130;refine HW.out.mono ?_;rintro e w1 ⟨rfl,rfl⟩)
     go_ret
     refine⟨zAT ?_,rfl⟩
     unfold okM
     rw[zHO HKL.out (by rw[HCol.out,HRN.out];simp[HQ.out])];simp
  ·go_wp2_with (go_at_call 131;refine(zKA _ _ _ _).mono ?_;rintro e w1 ⟨rfl,rfl⟩)
   go_ret
   refine⟨zAT ?_,rfl⟩
   unfold okM
   rw[HN.out,zJK (fun j hj=>HNO.out j hj (by have:=HN.out;omega))];simp
theorem sameInts_c(w:World)(a a2:Option Addr)(n cap n2 cap2:Nat)(l l2:List Int)(hn:l.length=n)(hn2:l2.length=n2)(hm:n<=maxLen)(hm2:n2<=maxLen)(H:zAI w a l)(H2:zAI w a2 l2):
 Calls Tryz.prog 46 #[.slice a n cap,.slice a2 n2 cap2] w fun e w'=>e=.returned (.bool (decide (l=l2)))∧∃k,w'=w.drewN k:=by
 have HN:=hid hn
 have HN2:=hid hn2
 have HH:=hid H
 have HH2:=hid H2
 clear hn hn2 H H2
 unfold maxLen at hm hm2
 by_cases hl:n=n2
 ·have hd:((n:Int) !=(n2:Int))=false:=by simp[hl]
  have HL:=hid hl
  clear hl
  go_enter Tryz.func46,Tryz.ntmps46
  go_wp2
  go_loopw [13] (fun i wr=>∃k:Nat,k<=n∧i=.int .i64 k∧(∃q,wr=w.drewN q)∧∀j (hj:j<l.length) (hj2:j<l2.length),j<k->l[j]=l2[j]) (fun i _=>n-(intOf i).toNat)
  case atStart=>exact⟨0,Nat.zero_le _,rfl,⟨0,rfl⟩,fun i _ _ h=>by omega⟩
  case round=>
   obtain⟨k,hk,rfl,⟨q,rfl⟩,hno⟩:=hrel
   have HNO:=hid hno
   clear hno
   by_cases hlt:k<n
   ·have hkl:k<l.length:=by rw[HN.out];exact hlt
    have hkl2:k<l2.length:=by rw[HN2.out,<- HL.out];exact hlt
    obtain⟨b,off,rfl,hbs,hc⟩:=HH.out k hkl
    obtain⟨b2,off2,rfl,hbs2,hc2⟩:=HH2.out k hkl2
    have hg:l[k]?.getD 0=l[k]:=by rw[List.getElem?_eq_getElem hkl];rfl
    have hg2:l2[k]?.getD 0=l2[k]:=by rw[List.getElem?_eq_getElem hkl2];rfl
    rw[hg]at hc
    rw[hg2]at hc2
    have hlt2:k<n2:=by have:=HL.out;omega
    have HKL:=hid hkl
    have HKL2:=hid hkl2
    clear hg hg2
    by_cases he:l[k]=l2[k]
    ·have hb:(l[k] !=l2[k])=false:=by simp[he]
     have HE:=hid he
     clear he
     go_wp2
     go_quiet (fail)
     go_wp2
     refine⟨⟨k+1,by omega,by go_num,⟨_,rfl⟩,fun j hj hj2 hjk=>?_⟩,by simp[intOf];omega⟩
     by_cases e:j=k
     ·subst e;exact HE.out
     ·exact HNO.out j hj hj2 (by omega)
    ·have hb:(l[k] !=l2[k])=true:=by simp[he]
     have HE:=hid he
     clear he
     go_wp2
     go_quiet (fail)
     go_wp2
     go_ret
     refine⟨zAT ?_,q+nq,zJF _ _ _⟩
     symm
     rw[decide_eq_false_iff_not]
     rintro rfl
     exact HE.out rfl
   ·go_wp2
    go_ret
    refine⟨zAT ?_,_,rfl⟩
    symm
    rw[decide_eq_true_iff]
    have h1:=HN.out
    have h2:=HN2.out
    have h3:=HL.out
    exact List.ext_getElem (by omega) fun i g1 g2=>HNO.out i g1 g2 (by omega)
 ·have hd:((n:Int) !=(n2:Int))=true:=by simp;omega
  have HL:=hid hl
  clear hl
  go_enter Tryz.func46,Tryz.ntmps46
  go_wp2
  go_ret
  refine⟨zAT ?_,0,rfl⟩
  symm
  rw[decide_eq_false_iff_not]
  rintro rfl
  exact HL.out (HN.out.symm.trans HN2.out)
end
section
open Go.RowKit
section
variable {P:Program} {ops:Array Oper} {Q:Exit->Act->World->Prop} {md:Region.Mode} {S:World->Prop}
def AnyT(P:Program)(md:Region.Mode)(ops:Array Oper)(Q:Exit->Act->World->Prop)(T:Nat->World->Prop):Nat->Array Bool->Act->World->Prop
 |0,listed,a,w=>Region.ready md ops listed=[]∧Q .normal a w
 |fuel+1,listed,a,w=>
  (Region.ready md ops listed=[]->Q .normal a w)∧
  ∀j∈Region.ready md ops listed,wpOp P ops Q j (fun a' w'=>T j w'∧AnyT P md ops Q T fuel (listed.setIfInBounds j true) a' w') a w
variable {T:Nat->World->Prop}
theorem AnyT.any:∀(fuel:Nat) (listed:Array Bool) (a:Act) (w:World),AnyT P md ops Q T fuel listed a w->wpAny P md ops Q fuel listed a w
 |0,_,_,_,h=>h
 |fuel+1,_,_,_,h=>⟨h.1,fun i hi=>wpOp_mono (fun a' w' h'=>AnyT.any fuel _ a' w' h'.2) (h.2 i hi)⟩
theorem AnyT.first{i:Nat}{oi:Oper}{v:Value}(hi:ops[i]? =some oi)(hsel:∀(j:Nat) (o:Oper) cs b,ops[j]? =some o->o.op≠.select cs b)
 (hQ:∀c a w,Q (.panic c) (a.put oi.dst v) w->Q (.panic c) a w)
 (hT:∀(j:Nat) oj,ops[j]? =some oj->(∀e∈oj.after,Region.binds md e=true->e.on≠i)->∀w,T j w->S w)(hTi:∀w,S w->T i w):
 ∀(fuel:Nat) (listed:Array Bool) (a:Act) (w:World),
  (∀j oj,ops[j]? =some oj->j≠i->listed.getD j true=false->(∀e∈oj.after,Region.binds md e=true->e.on≠i)->oi.apart ops oj=true)->
  i∈Region.ready md ops listed->YieldsIf P ops S oi v a->S w->
  AnyT P md ops Q T fuel (listed.setIfInBounds i true) (a.put oi.dst v) w->AnyT P md ops Q T (fuel+1) listed a w:=by
 intro fuel
 induction fuel with
 |zero=>
  intro listed a w _ hr hy hS H
  refine⟨fun h=>(by rw[h]at hr;cases hr),fun j hj=>?_⟩
  by_cases e:j=i
  ·subst e;exact hy.wpOp hi hS ⟨hTi w hS,H⟩
  ·have h0:=ready_mono hj e
   rw[H.1]at h0;cases h0
 |succ fuel ih=>
  intro listed a w hfree hr hy hS H
  refine⟨fun h=>(by rw[h]at hr;cases hr),fun j hj=>?_⟩
  by_cases e:j=i
  ·subst e;exact hy.wpOp hi hS ⟨hTi w hS,H⟩
  ·obtain⟨hun,oj,hoj,hall⟩:=mem_ready.1 hj
   have hnot:∀x∈oj.after,Region.binds md x=true->x.on≠i:=by
    intro x hx hb heq
    have h1:=hall x hx hb
    have h0:=(mem_ready.1 hr).1
    rw[heq]at h1
    rcases Nat.lt_or_ge i listed.size with hlt|hge
    ·simp[hlt]at h0 h1;rw[h0]at h1;cases h1
    ·simp[Array.getElem?_eq_none hge]at h1
   refine wpOp_mono (fun a' w' h3=>?_) (wpOp_putIf hoj (hfree j oj hoj e hun hnot) (fun cs b=>hsel i oi cs b hi) (fun cs b=>hsel j oj cs b hoj) hQ hy (H.2 j (ready_mono hj e)))
   have hS':=hT j oj hoj hnot w' h3.2.1
   refine⟨h3.2.1,ih (listed.setIfInBounds j true) a' w' ?_ (ready_mono hr (fun h=>e h.symm)) h3.1 hS' ?_⟩
   ·intro k ok hk hki hkun hno
    refine hfree k ok hk hki ?_ hno
    by_cases hjk:j=k
    ·subst hjk;exact hun
    ·rwa [getD_set_ne true hjk]at hkun
   ·rw[Array.setIfInBounds_comm _ _ e];exact h3.2.2
def waits(md:Region.Mode)(ops:Array Oper)(i j:Nat):Bool:=match ops[j]? with|some o=>o.after.any (fun e=>Region.binds md e&&e.on==i)|none=>true
theorem AnyT.take{i:Nat}{oi:Oper}{v:Value}{fuel:Nat}{listed:Array Bool}{a:Act}{w:World}(hi:ops[i]? =some oi)
 (hs:Region.noSelect ops=true)(hf:Region.free md ops listed i=true)(hr:(Region.ready md ops listed).contains i=true)
 (hQ:∀c a w,Q (.panic c) (a.put oi.dst v) w->Q (.panic c) a w)
 (hT:∀j,waits md ops i j=false->∀w,T j w->S w)(hTi:∀w,S w->T i w)(hy:YieldsIf P ops S oi v a)(hS:S w)
 (h:AnyT P md ops Q T fuel (listed.setIfInBounds i true) (a.put oi.dst v) w):AnyT P md ops Q T (fuel+1) listed a w:=
 AnyT.first hi (Region.noSelect_spec hs) hQ (fun j oj hj hno w hw=>hT j (by
  unfold waits;rw[hj]
  simp only[Array.any_eq_false]
  intro k hk
  have:=hno oj.after[k] (Array.getElem_mem hk)
  cases hb:Region.binds md oj.after[k]<;>simp[hb]at this⊢
  exact this) w hw) hTi fuel listed a w (Region.free_spec hi hf) (by simpa using hr) hy hS h
theorem AnyT.takeW{i:Nat}{oi:Oper}{v:Value}{fuel:Nat}{listed:Array Bool}{a:Act}{w:World}{Wf:Nat->Bool}(hi:ops[i]? =some oi)
 (hs:Region.noSelect ops=true)(hf:Region.free md ops listed i=true)(hr:(Region.ready md ops listed).contains i=true)
 (hQ:∀c a w,Q (.panic c) (a.put oi.dst v) w->Q (.panic c) a w)
 (hW:(List.range ops.size).all (fun j=>waits md ops i j||Wf j)=true)(hw:Region.wanted oi (yielded ops a.tmps)=true)(hy:∀w,S w->(execOp a.eval oi).run P w=.ok (.value v) w)(hS:S w)
 (h:AnyT P md ops Q (fun j w=>Wf j=true->S w) fuel (listed.setIfInBounds i true) (a.put oi.dst v) w):AnyT P md ops Q (fun j w=>Wf j=true->S w) (fuel+1) listed a w:=
 AnyT.take hi hs hf hr hQ (fun j hj w hT=>hT (by
  by_cases e:j<ops.size
  ·have:=List.all_eq_true.1 hW j (List.mem_range.2 e)
   rw[hj]at this;simpa using this
  ·unfold waits at hj;rw[Array.getElem?_eq_none (by omega)]at hj;cases hj)) (fun w hS _=>hS) (.inl ⟨hw,hy⟩) hS h
theorem AnyT.next{i:Nat}{o:Oper}{fuel:Nat}{listed:Array Bool}{a:Act}{w:World}(hr:Region.ready md ops listed=[i])(ho:ops[i]? =some o)
 (h:wpOp P ops Q i (fun a' w'=>T i w'∧AnyT P md ops Q T fuel (listed.setIfInBounds i true) a' w') a w):AnyT P md ops Q T (fuel+1) listed a w:=
 ⟨fun h0=>(by rw[hr]at h0;cases h0),fun j hj=>by rw[hr]at hj;obtain rfl:j=i:=(by simpa using hj);exact h⟩
theorem AnyT.done{listed:Array Bool}{a:Act}{w:World}(hr:Region.ready md ops listed=[])(h:Q .normal a w):∀fuel,AnyT P md ops Q T fuel listed a w
 |0=>⟨hr,h⟩
 |_+1=>⟨fun _=>h,by rw[hr];simp⟩
theorem zAF(T:Nat->World->Prop){id:Nat}{a:Act}{w:World}(hm:P.follows .mixedOrders=true)
 (h:AnyT P .any ops Q T ops.size (Array.replicate ops.size false) a w.drew):(Code.region id ops true).wp P Q a w:=
 wp_region_any hm (AnyT.any _ _ _ _ h)
def oneQ(K:Act->World->Prop)(Q:Exit->Act->World->Prop):Exit->Act->World->Prop
 | .normal,a,w=>K a w
 |e,a,w=>Q e a w
theorem wpOp_of_list{i:Nat}{o:Oper}{K:Act->World->Prop}{a:Act}{w:World}(ho:ops[i]? =some o)
 (h:wpList P ops (oneQ K Q) [o] a w):wpOp P ops Q i K a w:=by
 unfold wpOp
 simp only[ho]
 unfold wpList at h
 split
 ·rename_i hw
  simp only[hw,if_true]at h
  rcases h with h|⟨h,hl⟩
  ·refine .inl ?_
   unfold Oper.wp at h⊢
   generalize (execOp a.eval o).run P w=r at*
   cases r with
   |ok x w'=>
    cases x<;>simp only[Oper.upon]at h⊢ <;>first
     |exact h
     |exact Calls.mono h (fun e w'' he=>by cases e<;>exact he)
   |halt x w'=>cases x<;>simp only[Oper.upon]at h⊢ <;>exact h
  ·exact .inr ⟨h,hl⟩
 ·rename_i hw
  simp only[hw]at h
  exact h
end
theorem AnyT.nx{P:Program}{md:Region.Mode}{ops:Array Oper}{Q:Exit->Act->World->Prop}{T:Nat->World->Prop}{i:Nat}{o:Oper}{fuel:Nat}{listed:Array Bool}{a:Act}{w:World}(ho:ops[i]? =some o)
 (h:wpList P ops (oneQ (fun a' w'=>T i w'∧AnyT P md ops Q T fuel (listed.setIfInBounds i true) a' w') Q) [o] a w)(hr:Region.ready md ops listed=[i]:=by kernel_rfl):AnyT P md ops Q T (fuel+1) listed a w:=
 AnyT.next hr ho (wpOp_of_list ho h)
end
end Go.Proofs.YtlffndehhhpgjaaGreat
