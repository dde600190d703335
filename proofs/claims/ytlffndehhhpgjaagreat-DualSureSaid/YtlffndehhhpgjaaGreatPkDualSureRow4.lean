/- Walks and plain laws for DualSureRow, part 4. -/
import Derived.Sort.QuietIn
import Derived.Sort.LoopGhostIn
import Derived.Sort.CutIn
import Derived.Test.YtlffndehhhpgjaaGreatPkDualSureRow3
namespace Go.Proofs.YtlffndehhhpgjaaGreat
set_option linter.unusedVariables false
set_option linter.unusedSimpArgs false
set_option maxRecDepth 100000
set_option maxHeartbeats 4000000
section
open Go.RowKit
theorem zKQ(n lo hi:Int)(w:World):Calls Tryz.prog 88 #[.int .i64 n,.int .i64 lo,.int .i64 hi] w fun e w'=>e=.returned (.bool (inB n lo hi))∧w=w':=by
 by_cases h1:lo<=n<;>by_cases h2:n<=hi
 all_goals
  go_enter Tryz.func88,Tryz.ntmps88
  go_wp2
  go_ret
  exact⟨zAX (by simp[inB,h1,h2]),rfl⟩
theorem beyond1(w:World)(b:Nat)(m:Int)(hm:0<=m∧m<=1000000000)(hc:w.cell? ⟨b,0,none⟩=some (.int .i64 m))(hb:b<w.heap.size):
 zNU Tryz.prog 167 #[.pointer (some ⟨b,0,none⟩)] w (fun n=>!(inB n (-m) m)):=by
 intro x W hW
 have hc':W.cell? ⟨b,0,none⟩=some (.int .i64 m):=(hW.cell (p:=⟨b,0,none⟩) hb).trans hc
 obtain⟨z,hz⟩:=exq (-m)
 have hw:IntKind.i64.wrap (-m)=z:=by rw[hz];exact IntWalk.i64_in _ (by omega)
 rw[<- hz]
 obtain⟨B,hB⟩:=exq (inB x z m)
 have HP:=hid (zKQ x z m W)
 rw[<- hB]at HP
 simp only[<- hB]
 clear hB hc hz
 show Calls Tryz.prog 167 #[.int .i64 x,.pointer (some ⟨b,0,none⟩)] W _
 go_enter Tryz.func167,Tryz.ntmps167
 go_wp2_with (go_at_call 88;refine HP.out.mono ?_;rintro e w1 ⟨rfl,rfl⟩)
 go_ret
 exact⟨rfl,Below.refl _ _⟩
def milB(l:List Int):Bool:=l.all (fun n=>inB n (-1000000) 1000000)
def dotV(r h:List Int):Int:=sm (fun c=>vec r c*vec h c) r.length
theorem dot_le{r h:List Int}(hr:BndL 67108864 r)(hh:BndL 67108864 h):∀k:Nat,(sm (fun c=>vec r c*vec h c) k).natAbs<=k*4503599627370496
 |0=>by simp[sm]
 |k+1=>by
  have h1:=dot_le hr hh k
  have h2:(vec r k).natAbs<=67108864:=by have:=zET (P:=fun x=> -((67108864:Nat):Int)<=x∧x<=((67108864:Nat):Int)) (by decide) hr k;omega
  have h3:(vec h k).natAbs<=67108864:=by have:=zET (P:=fun x=> -((67108864:Nat):Int)<=x∧x<=((67108864:Nat):Int)) (by decide) hh k;omega
  have h4:(vec r k*vec h k).natAbs<=67108864*67108864:=by rw[Int.natAbs_mul];exact Nat.mul_le_mul h2 h3
  show(sm (fun c=>vec r c*vec h c) k+vec r k*vec h k).natAbs<=_
  omega
theorem r2dot_c(w:World)(a a2:Option Addr)(n cap n2 cap2:Nat)(r h:List Int)(hn:r.length=n)(hn2:h.length=n2)(hm:n<=1000)(hle:n<=n2)(H:zAE w a r)(H2:zAE w a2 h)(hr:BndL 67108864 r)(hh:BndL 67108864 h):
 Calls Tryz.prog 54 #[.slice a n cap,.slice a2 n2 cap2] w fun e w'=>e=.returned (.int .i64 (dotV r h))∧∃k,w'=w.drewN k:=by
 have HN:=hid hn
 have HN2:=hid hn2
 have HH:=hid H
 have HH2:=hid H2
 have HDL:=hid (dot_le hr hh)
 have HR:=hid hr
 have HHB:=hid hh
 have HD:=hid (show dotV r h=sm (fun c=>vec r c*vec h c) n by unfold dotV;rw[hn])
 clear hn hn2 H H2 hr hh
 go_enter Tryz.func54,Tryz.ntmps54
 go_wp2
 go_loopw [5,9] (fun s i wr=>∃k:Nat,k<=n∧i=.int .i64 k∧s=.int .i64 (sm (fun c=>vec r c*vec h c) k)∧∃q,wr=w.drewN q) (fun _ i _=>n-(intOf i).toNat)
 case atStart=>exact⟨0,Nat.zero_le _,rfl,rfl,0,rfl⟩
 case round=>
  obtain⟨k,hk,rfl,rfl,q,rfl⟩:=hrel
  by_cases hlt:k<n
  ·have hkl:k<r.length:=by rw[HN.out];exact hlt
   have hkl2:k<h.length:=by rw[HN2.out];omega
   obtain⟨b,off,rfl,hbs,hc⟩:=HH.out k hkl
   obtain⟨b2,off2,rfl,hbs2,hc2⟩:=HH2.out k hkl2
   have g1:=HR.out.get hkl
   have g2:=HHB.out.get hkl2
   have e1:=HDL.out k
   have e2:=HDL.out (k+1)
   have es:sm (fun c=>vec r c*vec h c) (k+1)=sm (fun c=>vec r c*vec h c) k+r[k]?.getD 0*h[k]?.getD 0:=rfl
   obtain⟨x,hx⟩:=exq (r[k]?.getD 0)
   obtain⟨y,hy⟩:=exq (h[k]?.getD 0)
   rw[<- hx]at hc g1 es
   rw[<- hy]at hc2 g2 es
   obtain⟨s0,hs0⟩:=exq (sm (fun c=>vec r c*vec h c) k)
   rw[<- hs0]at es e1⊢
   rw[es]at e2
   have e3:=zIT (show-(67108864:Int)<=x∧x<=67108864 by omega) (show-(67108864:Int)<=y∧y<=67108864 by omega)
   obtain⟨m,hmm⟩:=exq (x*y)
   rw[<- hmm]at es e2 e3
   have w1:IntKind.i64.wrap (x*y)=m:=by rw[<- hmm];exact IntWalk.i64_in _ (by omega)
   have w2:IntKind.i64.wrap (s0+m)=s0+m:=IntWalk.i64_in _ (by omega)
   have HES:=hid es
   have i1:(0:Int)<=(k:Int):=by omega
   have i2:(k:Int)<(n:Int):=by omega
   have i3:(k:Int)<(n2:Int):=by omega
   clear hx hy hs0 hmm es e1 e2 e3 g1 g2 hkl hkl2
   go_wp2
   go_quiet (fail)
   go_wp2
   exact⟨⟨k+1,by omega,by go_num,by rw[HES.out],_,rfl⟩,by simp[intOf];omega⟩
  ·obtain rfl:n=k:=by omega
   go_wp2
   go_ret
   exact⟨zBP HD.out.symm,q,rfl⟩
end
section
open Go.RowKit
theorem mil_bnd{h:List Int}(e:milB h=true):BndL 67108864 h:=by
 intro x hx
 have:=List.all_eq_true.1 e x hx
 unfold inB at this
 simp only[Bool.and_eq_true,decide_eq_true_eq]at this
 omega
theorem one_bnd{M:Mask}{W:Nat}(h:MaskOk M W):∀r∈M,BndL 67108864 r:=fun r hr=>zKW (P:=fun x=> -((67108864:Nat):Int)<=x∧x<=((67108864:Nat):Int)) fun c=>by have:=h.one r hr c;omega
theorem any_mil(h:List Int):h.any (fun n=>!(inB n (-1000000) 1000000))=!milB h:=by unfold milB;rw[List.not_all_eq_any_not]
theorem zNS(w:World)(m:Int):Calls Tryz.prog 106 #[.int .i64 m] w fun e w'=>∃b,e=.returned (.func (.func 167) #[] #[.pointer (some ⟨b,0,none⟩)])∧w'.cell? ⟨b,0,none⟩=some (.int .i64 m)∧b<w'.heap.size∧Below w.heap.size w w':=by
 go_enter Tryz.func106,Tryz.ntmps106
 go_wp2
 go_ret
 exact⟨w.heap.size,rfl,by rw[World.cell?_alloc_at _ _ _ _ rfl];rfl,by simp,(Below.refl _ _).alloc (Nat.le_refl _) _⟩
end
section
open Go.RowKit
theorem mil_le{h:List Int}(e:milB h=true):∀x∈h,-1000000<=x∧x<=1000000:=by
 intro x hx
 have:=List.all_eq_true.1 e x hx
 unfold inB at this
 simp only[Bool.and_eq_true,decide_eq_true_eq]at this
 omega
end
section
theorem upF_get:∀(m:Nat) (a:Int) (j:Nat),j<m->(upF a m)[j]? =some (a+j)
 |0,_,_,h=>by omega
 |m+1,a,0,_=>by simp[upF]
 |m+1,a,j+1,h=>by
  show(upF (a+1) m)[j]? =_
  rw[upF_get m (a+1) j (by omega)];congr 1;omega
theorem upF_snoc:∀(m:Nat) (a:Int),upF a (m+1)=upF a m++[a+m]
 |0,a=>by simp[upF]
 |m+1,a=>by
  show a::upF (a+1) (m+1)=a::(upF (a+1) m++_)
  rw[upF_snoc m (a+1)]
  congr 3;omega
theorem upF_range(m:Nat):∀a:Nat,upF (a:Int) m=(List.range' a m).map (fun j:Nat=>(j:Int)):=by
 induction m with
 |zero=>intro a;rfl
 |succ m ih=>
  intro a
  show(a:Int)::upF ((a:Int)+1) m=_
  have:=ih (a+1)
  rw[show((a:Int)+1)=((a+1:Nat):Int)by omega,this]
  simp[List.range'_succ]
def zLM(n k:Nat)(x:List Int)(m:Nat):Prop:=∀j,m<=j->j<k->x[j]? =some ((n:Int)-k+j)
theorem tail_le{n k m:Nat}{x:List Int}(hl:x.length=k)(hp:x.Pairwise (· < ·))(hb:∀y∈x,y<(n:Int))(hm:m<k)(ht:zLM n k x (m+1)):x[m]?.getD 0<=(n:Int)-k+m:=by
 have hml:m<x.length:=by omega
 rw[List.getElem?_eq_getElem hml]
 by_cases e:m+1=k
 ·have:=hb _ (List.getElem_mem hml);simp;omega
 ·have h1:=ht (m+1) (Nat.le_refl _) (by omega)
  have hml1:m+1<x.length:=by omega
  rw[List.getElem?_eq_getElem hml1]at h1
  have h2:=List.pairwise_iff_getElem.1 hp m (m+1) hml hml1 (by omega)
  have h3:=Option.some.inj h1
  simp;omega
theorem tail_step{n k m:Nat}{x:List Int}(hl:x.length=k)(hm:m<k)(ht:zLM n k x (m+1))(he:x[m]?.getD 0=(n:Int)-k+m):zLM n k x m:=by
 intro j h1 h2
 by_cases e:j=m
 ·subst e
  rw[List.getElem?_eq_getElem (by omega)]at he⊢
  rw[<- he];rfl
 ·exact ht j (by omega) h2
theorem tail_drop{n k m:Nat}{x:List Int}(hl:x.length=k)(hk:k<=n)(hm:m<=k)(ht:zLM n k x m):x.drop m=upF ((n:Int)-(k-m:Nat)) (k-m):=by
 apply List.ext_getElem?
 intro j
 rw[List.getElem?_drop]
 rcases Nat.lt_or_ge j (k-m)with h|h
 ·rw[ht (m+j) (by omega) (by omega),upF_get _ _ _ h];congr 1;omega
 ·rw[List.getElem?_eq_none (by omega),List.getElem?_eq_none (by rw[zGR];omega)]
theorem next_none{n k:Nat}{x:List Int}(hl:x.length=k)(hk:k<=n)(ht:zLM n k x 0):zGT n x=none:=by
 have:=tail_drop hl hk (Nat.zero_le _) ht
 rw[List.drop_zero,Nat.sub_zero]at this
 rw[this]
 exact zNF k _ (by omega)
def zHZ(x:List Int)(m j:Nat):List Int:=x.take m++upF (x[m]?.getD 0+1) (j-m)++x.drop j
theorem fillS_len{x:List Int}{m j:Nat}(h1:m<=j)(h2:j<=x.length):(zHZ x m j).length=x.length:=by
 unfold zHZ;simp[zGR];omega
theorem fillS_get{x:List Int}{m j:Nat}(h1:m<j)(h2:j<=x.length):(zHZ x m j)[j-1]?.getD 0=x[m]?.getD 0+(j-m:Nat):=by
 unfold zHZ
 rw[List.getElem?_append_left (by simp[zGR];omega),List.getElem?_append_right (by simp;omega)]
 simp only[List.length_take]
 rw[show j-1-min m x.length=j-m-1 by omega,upF_get _ _ _ (by omega)]
 simp;omega
theorem fillS_set{x:List Int}{m j:Nat}(h1:m<=j)(h2:j<x.length):(zHZ x m j).set j (x[m]?.getD 0+(j+1-m:Nat))=zHZ x m (j+1):=by
 unfold zHZ
 have hl:(x.take m++upF (x[m]?.getD 0+1) (j-m)).length=j:=by simp[zGR];omega
 rw[List.set_append_right _ _ (by omega),hl,Nat.sub_self,List.drop_eq_getElem_cons h2,List.set_cons_zero,show j+1-m=(j-m)+1 by omega,upF_snoc]
 simp
 omega
theorem fillS_start{x:List Int}{m:Nat}(hm:m<x.length):x.set m (x[m]?.getD 0+1)=zHZ x m (m+1):=by
 have:=fillS_set (x:=x) (m:=m) (j:=m) (Nat.le_refl _) hm
 rw[show m+1-m=1 by omega]at this
 unfold zHZ at this⊢
 rw[<- this]
 simp[upF]
theorem fillS_done{n k m:Nat}{x:List Int}(hl:x.length=k)(hk:k<=n)(hm:m<k)(ht:zLM n k x (m+1))(hlt:x[m]?.getD 0<(n:Int)-k+m):zGT n x=some (zHZ x m k):=by
 have h1:=tail_drop hl hk (by omega) ht
 have hml:m<x.length:=by omega
 have hx:x=x.take m++x[m]::upF ((n:Int)-(k-(m+1):Nat)) (k-(m+1)):=by
  rw[<- h1,<- List.drop_eq_getElem_cons hml,List.take_append_drop]
 have hd:x[m]?.getD 0=x[m]:=by rw[List.getElem?_eq_getElem hml];rfl
 rw[hd]at hlt
 have h2:=nextS_at (n:=(n:Int)) (m:=k-(m+1)) (d:=x[m]) (by omega) (x.take m)
 rw[<- hx]at h2
 rw[h2]
 unfold zHZ
 rw[hd,List.drop_eq_nil_of_le (by omega),List.append_nil,show k-(m+1)+1=k-m by omega]
theorem zJI{α:Type}{l:List α}{i:Nat}{x:α}(h:l[i]? =some x):l.take i++[x]=l.take (i+1):=by
 obtain⟨hi,rfl⟩:=List.getElem?_eq_some_iff.1 h
 rw[List.take_succ_eq_append_getElem hi]
theorem take_all_at{α:Type}{l:List α}{i:Nat}{x:α}(h:l[i]? =some x)(hn:l[i+1]? =none):l.take (i+1)=l:=by
 exact List.take_of_length_le (List.getElem?_eq_none_iff.1 hn)
end
section
open Go.RowKit
attribute [local go_sem] Oper.semAt_some
theorem allI_upF(n:Nat):allI n=upF 0 n:=by
 have:=upF_range n 0
 rw[show((0:Nat):Int)=0 from rfl]at this
 rw[this]
 unfold allI
 rw[List.range_eq_range']
theorem iter_sets(w0:World)(n k kb nb:Nat)(hn:n<=1000)(hk:k<=1000)(hk1:1<=k)(hkb:kb<w0.heap.size)(hnb:nb<w0.heap.size)(hf0:w0.cell? ⟨kb,0,none⟩=some (.int .i64 k))(hf1:w0.cell? ⟨nb,0,none⟩=some (.int .i64 n)):
 IterInts Tryz.prog 3 222 #[.pointer (some ⟨kb,0,none⟩),.pointer (some ⟨nb,0,none⟩)] (comb n k 0) (fun q=>q=kb∨q=nb) w0:=by
 obtain⟨xs,hxs⟩:=exq (comb n k 0)
 have hfacts:∀x∈xs,x.length=k∧x.Pairwise (· < ·)∧(∀y∈x,y<(n:Int))∧∀j:Nat,(0:Int)<=x[j]?.getD 0:=fun x hx=>by
  rw[hxs]at hx
  obtain⟨h1,h2⟩:=zID n k 0 x hx
  exact⟨zCW n k 0 x hx,h1,fun y hy=>by have:=(h2 y hy).2;omega,fun j=>by
   rcases Nat.lt_or_ge j x.length with h|h
   ·rw[List.getElem?_eq_getElem h];have:=(h2 _ (List.getElem_mem h)).1;simp;omega
   ·rw[List.getElem?_eq_none h];simp⟩
 have hchn:Chn n none xs:=by rw[hxs];have:=zNO n k 0;rwa [Int.zero_add]at this
 have hhead:k<=n->xs[0]? =some (upF 0 k):=fun hkn=>by
  rw[hxs]
  obtain⟨t,ht⟩:=zLH n k 0 hkn
  rw[ht];rfl
 have hnil:¬k<=n->xs=[]:=fun h=>by rw[hxs];exact zGE n k 0 (by omega)
 rw[<- hxs]
 have HF:=hid hfacts
 have HC:=hid hchn
 have HH:=hid hhead
 have HNL:=hid hnil
 clear hfacts hchn hhead hnil hxs
 intro l J Jx W hb hJ hY h0
 have hg0:W.cell? ⟨kb,0,none⟩=some (.int .i64 k):=(hb.cell (p:=⟨kb,0,none⟩) hkb).trans hf0
 have hg1:W.cell? ⟨nb,0,none⟩=some (.int .i64 n):=(hb.cell (p:=⟨nb,0,none⟩) hnb).trans hf1
 have hkW:kb<W.heap.size:=Nat.lt_of_lt_of_le hkb hb.size
 have hnW:nb<W.heap.size:=Nat.lt_of_lt_of_le hnb hb.size
 have HJ:=hid hJ
 have HY:=hid hY
 have H0:=hid h0
 have HALL:=hid (all_c W k hk)
 clear hJ hY h0 hf0 hf1 hb
 refine callsIn_of_wp Tryz.func222 rfl trivial ?_ rfl
 simp only[Tryz.ntmps222,List.size_toArray,List.length_cons,List.length_nil,Nat.reduceAdd,Nat.reduceSub,Array.replicate_succ,Array.replicate_zero,List.push_toArray,List.append_toArray,List.nil_append,List.cons_append]
 gi_wp2_with (refine⟨trivial,rfl,?_⟩;gi_at_call 194;refine(callsIn_wide.2 HALL.out).mono ?_;rintro e w1 ⟨v,rfl,ho1,hb1⟩;refine Stop.of ?_)
 refine Stop.go ?_
 obtain⟨it,cap,rfl,hit,hr1⟩:=zKL ho1 (allI_len k) hk1
 rw[allI_upF]at hr1
 have hJ1:J it [] w1:=HJ.out it _ _ _ hit (H0.out it hit) (Keep.of_below hb1)
 have hkb1:=hb1.block kb hkW
 have hnb1:=hb1.block nb hnW
 have hs1:=hb1.size
 clear ho1 HALL
 by_cases hkn:k<=n
 ·have hhead:=HH.out hkn
  have hit1:=hr1.lt
  have HIT:=hid hit
  clear hit
  gi_wp2
  gi_loopg [] xs.length (fun(g:Nat) wr=>∃(i:Nat) (x:List Int),g=xs.length-i∧xs[i]? =some x∧J it (xs.take i) wr∧zBS wr it x∧wr.heap[kb]? =W.heap[kb]? ∧wr.heap[nb]? =W.heap[nb]? ∧W.heap.size<=wr.heap.size)
  case atStart=>exact⟨0,upF 0 k,by omega,hhead,by rw[List.take_zero];exact hJ1,hr1,hkb1,hnb1,hs1⟩
  case round=>
   obtain⟨i,x,rfl,hx,hJk,hrk,hfk,hfn,hsz⟩:=hrel
   have hxm:x∈xs:=List.mem_of_getElem? hx
   obtain⟨hxl,hxp,hxb,hxn⟩:=HF.out x hxm
   have hil:i<xs.length:=(List.getElem?_eq_some_iff.1 hx).1
   obtain⟨sp,hrow⟩:=hrk
   have hyk:=HY.out it (xs.take i) x cap sp wr (by rw[zJI hx];exact List.take_prefix _ _) HIT.out (Array.getElem?_eq_some_iff.1 hrow).1 hJk hrow
   rw[hxl,zJI hx]at hyk
   have hw0:wr.cell? ⟨kb,0,none⟩=some (.int .i64 k):=(World.cell?_of_block (a:=⟨kb,0,none⟩) hfk).trans hg0
   have hw1:wr.cell? ⟨nb,0,none⟩=some (.int .i64 n):=(World.cell?_of_block (a:=⟨nb,0,none⟩) hfn).trans hg1
   have hkn':(k:Int)<=(n:Int):=by omega
   have HRK:=hid (show zBS wr it x from⟨sp,hrow⟩)
   have HFK:=hid hfk
   have HFN:=hid hfn
   have HX:=hid hx
   have HXL:=hid hxl
   have HXP:=hid hxp
   have HXB:=hid hxb
   have HXN:=hid hxn
   clear hrow hJk hfk hfn hx hxm hxl hxp hxb hxn hhead hJ1 hr1 hkb1 hnb1
   obtain⟨fn,tmps,assign,body,hy,hR⟩:=hyk
   gi_wp2
   refine⟨rfl,hR.mono ?_⟩
   clear hR hy
   rintro e W3 (⟨rfl,hJ3,hs3,hk3⟩|⟨rfl,hJx⟩)
   ·have hr3:zBS W3 it x:=HRK.out.keep (hk3 it (Or.inr rfl))
    have hfk3:W3.heap[kb]? =W.heap[kb]? :=(hk3 kb (Or.inl (Or.inl rfl))).trans HFK.out
    have hfn3:W3.heap[nb]? =W.heap[nb]? :=(hk3 nb (Or.inl (Or.inr rfl))).trans HFN.out
    have hg30:W3.cell? ⟨kb,0,none⟩=some (.int .i64 k):=(World.cell?_of_block (a:=⟨kb,0,none⟩) hfk3).trans hg0
    have hg31:W3.cell? ⟨nb,0,none⟩=some (.int .i64 n):=(World.cell?_of_block (a:=⟨nb,0,none⟩) hfn3).trans hg1
    have HR3:=hid hr3
    have HK3:=hid hfk3
    have HN3:=hid hfn3
    have HJ3:=hid hJ3
    clear hr3 hfk3 hfn3 hJ3 hk3 hw0 hw1 HRK HFK HFN
    gi_wp2
    gi_loopw [5] (fun i5 wi=>∃i0:Int,i5=.int .i64 i0∧ -1<=i0∧i0<k∧zLM n k x (i0+1).toNat∧Below W3.heap.size W3 wi) (fun i5 _=>(intOf i5+1).toNat)
    case atStart=>
     refine⟨k-1,by first|rfl| (congr 1),by omega,by omega,?_,Below.refl _ _⟩
     intro j h1 h2
     omega
    case round=>
     obtain⟨i0,rfl,hi1,hi2,hT,hbi⟩:=hrel
     have hgk:wr.cell? ⟨kb,0,none⟩=some (.int .i64 k):=(hbi.cell (p:=⟨kb,0,none⟩) (by show kb<_;omega)).trans hg30
     have hgn:wr.cell? ⟨nb,0,none⟩=some (.int .i64 n):=(hbi.cell (p:=⟨nb,0,none⟩) (by show nb<_;omega)).trans hg31
     have hri:=HR3.out.keep (hbi.block it HR3.out.lt)
     have HBI:=hid hbi
     clear hbi
     by_cases h0:0<=i0
     ·obtain⟨m,rfl⟩:=Int.eq_ofNat_of_zero_le h0
      have e1:((m:Int)+1).toNat=m+1:=by omega
      rw[e1]at hT
      have hmk:m<k:=by omega
      have hle:=tail_le HXL.out HXP.out HXB.out hmk hT
      have hc:wr.cell? ⟨it,m,none⟩=some (.int .i64 (x[m]?.getD 0)):=hri.cell (by rw[HXL.out];exact hmk)
      have hw1:wrap64 ((n:Int)-k)=(n:Int)-k:=by unfold wrap64;omega
      have hw2:wrap64 ((n:Int)-k+m)=(n:Int)-k+m:=by unfold wrap64;omega
      have hz:=hri.frozen m
      have hlt3:=hri.lt
      have HRI:=hid hri
      clear hri
      have hm0:(0:Int)<=(m:Int):=by omega
      have hm1:(m:Int)<(k:Int):=by omega
      have HT:=hid hT
      by_cases he:x[m]?.getD 0=(n:Int)-k+m
      ·have hst:=tail_step HXL.out hmk hT he
       have hbe:(x[m]?.getD 0==(n:Int)-k+m)=true:=by simpa using he
       have HST:=hid hst
       clear he hst hT hle
       gi_wp2
       gi_quiet (fail)
       gi_wp2
       refine⟨⟨(m:Int)-1,rfl,by omega,by omega,?_,zBW HBI.out nq⟩,?_⟩
       ·rw[show((m:Int)-1+1).toNat=m by omega];exact HST.out
       ·simp[intOf]
      ·have hbe:(x[m]?.getD 0==(n:Int)-k+m)=false:=by simpa using he
       have hlt:x[m]?.getD 0<(n:Int)-k+m:=by omega
       have HLT:=hid hlt
       clear he hT hle hlt
       gi_wp2
       gi_quiet (fail)
       have HRQ:=hid (show zBS (wr.drewN nq) it x from HRI.out)
       have HBQ:=hid (zBW HBI.out nq)
       have hgk2:(wr.drewN nq).cell? ⟨kb,0,none⟩=some (.int .i64 k):=hgk
       have hc2:(wr.drewN nq).cell? ⟨it,m,none⟩=some (.int .i64 (x[m]?.getD 0)):=hc
       have hz2:(wr.drewN nq).frozen? ⟨it,m,none⟩=false:=hz
       have hlt2:it<(wr.drewN nq).heap.size:=hlt3
       clear HRI HBI hgk hgn hc hz hlt3
       generalize wr.drewN nq=w4 at HRQ HBQ hgk2 hc2 hz2 hlt2⊢
       have hv:wrap64 (x[m]?.getD 0+1)=x[m]?.getD 0+1:=by
        have h1:=HLT.out
        have h2:(0:Int)<=x[m]?.getD 0:=HXN.out m
        unfold wrap64;omega
       have HV:=hid hv
       clear hv
       have HKS:=hid (HRQ.out.set m (by rw[HXL.out];exact hmk) (x[m]?.getD 0+1))
       rw[fillS_start (by rw[HXL.out];exact hmk)]at HKS
       have HW9:=hid (show wrap64 ((m:Int)+1)=((m+1:Nat):Int)by unfold wrap64;omega)
       gi_wp2
       gi_loopw [6] (fun v wj=>∃j:Nat,m+1<=j∧j<=k∧v=.int .i64 j∧zBS wj it (zHZ x m j)∧Keep (fun q=>q≠it) w4 wj) (fun v _=>k-(intOf v).toNat)
       case atStart=>exact⟨m+1,Nat.le_refl _,by omega,by rw[show((m:Int)+1)=((m+1:Nat):Int)by omega],by have h:=HKS.out;with_reducible (first| (rw[HV.out];exact h)|exact h),Keep.set _ _ _ _⟩
       case round=>
        obtain⟨j,hj1,hj2,rfl,hrj,hkj⟩:=hrel
        have hgj:wr.cell? ⟨kb,0,none⟩=some (.int .i64 k):=hkj.cell hgk2 (by have:=HIT.out;omega)
        by_cases hjk:j<k
        ·have hlen:=fillS_len (m:=m) (j:=j) (x:=x) (by omega) (show j<=x.length by rw[HXL.out];omega)
         have hget:=fillS_get (x:=x) (show m<j by omega) (by rw[HXL.out];omega)
         have hset:=fillS_set (x:=x) (show m<=j by omega) (by rw[HXL.out];omega)
         have hcj:=hrj.cell (j:=j-1) (by rw[hlen,HXL.out];omega)
         rw[hget]at hcj
         have hzj:=hrj.frozen j
         have hcj2:=hrj.cell (j:=j) (by rw[hlen,HXL.out];exact hjk)
         obtain⟨u,hu⟩:=exq ((zHZ x m j)[j]?.getD 0)
         rw[<- hu]at hcj2
         have hltj:=hrj.lt
         have hwj:wrap64 ((j:Int)-1)=((j-1:Nat):Int):=by unfold wrap64;omega
         have hwv:wrap64 (x[m]?.getD 0+((j-m:Nat):Int)+1)=x[m]?.getD 0+((j+1-m:Nat):Int):=by
          have h1:=HLT.out
          have h2:(0:Int)<=x[m]?.getD 0:=HXN.out m
          unfold wrap64;omega
         have HSJ:=hid (hrj.set j (by rw[hlen,HXL.out];exact hjk) (x[m]?.getD 0+((j+1-m:Nat):Int)))
         rw[hset]at HSJ
         have i1:(0:Int)<=((j-1:Nat):Int):=by omega
         have i2:((j-1:Nat):Int)<(k:Int):=by omega
         have i3:(0:Int)<=(j:Int):=by omega
         have i4:(j:Int)<(k:Int):=by omega
         have HKJ:=hid hkj
         obtain⟨y,hy⟩:=exq (x[m]?.getD 0+((j-m:Nat):Int))
         obtain⟨z,hz⟩:=exq (x[m]?.getD 0+((j+1-m:Nat):Int))
         rw[<- hy,<- hz]at hwv
         rw[<- hy]at hcj
         rw[<- hz]at HSJ
         obtain⟨p,hp⟩:=exq (j-1)
         rw[<- hp]at hcj hwj i1 i2
         have hjp:(j:Int)-1=(p:Int):=by omega
         clear hrj hkj hlen hget hset hy hz hp hu
         gi_wp2
         refine⟨⟨j+1,by omega,by omega,?_,HSJ.out,HKJ.out.trans (Keep.set _ _ _ _)⟩,by simp[intOf];omega⟩
         rw[show((j:Int)+1)=((j+1:Nat):Int)by omega]
        ·obtain rfl:j=k:=by omega
         have hnx:=HC.out.at HX.out
         rw[fillS_done HXL.out hkn hmk HT.out HLT.out]at hnx
         have hi1:i+1<xs.length:=(List.getElem?_eq_some_iff.1 hnx).1
         have HNX:=hid hnx
         have HKJ:=hid hkj
         have HRJ:=hid hrj
         clear hnx hkj hrj
         gi_wp2
         gi_roundg (xs.length-(i+1))
         case measure=>omega
         case rel=>
          refine⟨i+1,zHZ x m j,rfl,HNX.out,?_,HRJ.out,?_,?_,?_⟩
          ·exact HJ.out it _ W3 _ HIT.out HJ3.out ((Keep.of_below HBQ.out).trans HKJ.out)
          ·exact(HKJ.out.block kb (by have:=HBQ.out.size;omega) (by have:=HIT.out;omega)).trans ((HBQ.out.block kb (by omega)).trans HK3.out)
          ·exact(HKJ.out.block nb (by have:=HBQ.out.size;omega) (by have:=HIT.out;omega)).trans ((HBQ.out.block nb (by omega)).trans HN3.out)
          ·have:=HKJ.out.size;have:=HBQ.out.size;omega
     ·obtain rfl:i0= -1:=by omega
      have hn0:decide ((0:Int)<= -1)=false:=by decide
      have HT:=hid hT
      clear hT
      gi_wp2
      gi_quiet (fail)
      gi_wp2
      refine bodyPost_ret (results_none rfl _ _ _) rfl ?_
      refine⟨⟨_,rfl⟩,.inl ⟨it,HIT.out,?_⟩⟩
      have hnx:=HC.out.at HX.out
      rw[next_none HXL.out hkn (by simpa using HT.out)]at hnx
      rw[<- take_all_at HX.out hnx]
      exact HJ.out it _ W3 _ HIT.out HJ3.out (Keep.of_below (zBW HBI.out _))
   ·gi_wp2
    refine bodyPost_ret (results_none rfl _ _ _) rfl ?_
    exact⟨⟨_,rfl⟩,.inr ⟨_,List.take_prefix _ _,hJx⟩⟩
 ·have HNIL:=hid (HNL.out hkn)
  have hkb':w1.cell? ⟨kb,0,none⟩=some (.int .i64 k):=(World.cell?_of_block (a:=⟨kb,0,none⟩) hkb1).trans hg0
  have hnb':w1.cell? ⟨nb,0,none⟩=some (.int .i64 n):=(World.cell?_of_block (a:=⟨nb,0,none⟩) hnb1).trans hg1
  have hd:decide ((k:Int)<=(n:Int))=false:=by simp;omega
  have HJ1:=hid hJ1
  have HIT:=hid hit
  clear hJ1 hit hr1
  gi_wp2
  gi_loopw [] (fun wr=>∃q,wr=w1.drewN q) (fun _=>0)
  case atStart=>exact⟨0,rfl⟩
  case round=>
   obtain⟨q,rfl⟩:=hrel
   have hkb2:(w1.drewN q).cell? ⟨kb,0,none⟩=some (.int .i64 k):=hkb'
   have hnb2:(w1.drewN q).cell? ⟨nb,0,none⟩=some (.int .i64 n):=hnb'
   gi_wp2
   go_end0
   refine⟨⟨_,rfl⟩,.inl ⟨it,HIT.out,?_⟩⟩
   rw[HNIL.out]
   exact HJ.out it _ _ _ HIT.out HJ1.out ((Keep.refl _ _).drewN q)
end
section
open Go.RowKit
theorem sets_c(w:World)(n k:Int):
 Calls Tryz.prog 178 #[.int .i64 n,.int .i64 k] w fun e w'=>e=.returned (.func (.func 222) #[] #[.pointer (some ⟨w.heap.size+1,0,none⟩),.pointer (some ⟨w.heap.size,0,none⟩)])∧
  w'=(w.alloc (.cells #[.int .i64 n] 3)).alloc (.cells #[.int .i64 k] 3):=by
 have hmf:∀(fn:Fn) (first cap:Array Value) (w:World),(Instr.makeFunc fn first cap).run Tryz.prog w=.ok (.func fn first cap) w:=fun _ _ _ _=>rfl
 go_enter Tryz.func178,Tryz.ntmps178
 go_wp2
 go_ret
 exact⟨by simp,rfl⟩
end
section
open Go.RowKit
def zJD(b:Nat):Nat->List Deferred->World->Prop
 |_,[],_=>True
 |top,d::ds,w=>∃h,b<=h∧h<top∧d={target:=.collected h,args:=#[]}∧w.heap[h]? =some (.deferred (some []))∧zJD b h ds w
theorem zJD.keep{b:Nat}{S:Nat->Prop}{A B:World}(hk:Keep S A B):∀{top:Nat} {D:List Deferred},(∀k,k<A.heap.size->b<=k->k<top->A.heap[k]? =some (.deferred (some []))->S k)->zJD b top D A->zJD b top D B
 |_,[],_,_=>trivial
 |top,d::ds,hS,h=>by
  obtain⟨k,h1,h2,h3,h4,h5⟩:=h
  have hlt:=(Array.getElem?_eq_some_iff.1 h4).1
  exact⟨k,h1,h2,h3,(hk.block k hlt (hS k hlt h1 h2 h4)).trans h4,zJD.keep hk (fun q hq hb hqk=>hS q hq hb (by omega)) h5⟩
theorem zJD.lt{b:Nat}{A:World}:∀{top:Nat} {D:List Deferred},zJD b top D A->zJD b A.heap.size D A
 |_,[],_=>trivial
 |top,d::ds,⟨k,h1,h2,h3,h4,h5⟩=>⟨k,h1,(Array.getElem?_eq_some_iff.1 h4).1,h3,h4,h5⟩
theorem zJD.below{b k top:Nat}{D:List Deferred}{A:World}(hk:top<=k):∀(o:Obj),zJD b top D A->zJD b top D (A.putObj k o):=fun o h=>by
 induction D generalizing top with
 |nil=>trivial
 |cons d ds ih=>
  obtain⟨q,h1,h2,h3,h4,h5⟩:=h
  exact⟨q,h1,h2,h3,(World.putObj_heap_other (by omega)).trans h4,ih (by omega) h5⟩
end
section
open Go.RowKit
attribute [local go_sem] Oper.semAt_some
theorem zIH.lt{E T:TypeId}{W:World}{base:Nat}{S:Nat->Prop}{v:Value}{ls:List (List Int)}(h:zIH E T W base S v ls):zIH E T W base (fun b=>S b∧b<W.heap.size) v ls:=by
 obtain⟨vs,ho,hg,he⟩:=h
 refine⟨vs,ho,fun k hk=>⟨hg k hk,(ho.lt k hk).2⟩,fun j hj=>?_⟩
 obtain⟨u,hu,a,n,cap,e,hn,hm,hel⟩:=he j hj
 refine⟨u,hu,a,n,cap,e,hn,hm,fun i hi=>?_⟩
 obtain⟨b,off,e,hS,hlt,rest⟩:=hel i hi
 exact⟨b,off,e,⟨hS,hlt⟩,hlt,rest⟩
theorem zIH.mono{E T:TypeId}{W:World}{base:Nat}{S S':Nat->Prop}{v:Value}{ls:List (List Int)}(h:zIH E T W base S v ls)(hs:∀b,S b->S' b):zIH E T W base S' v ls:=by
 obtain⟨vs,ho,hg,he⟩:=h
 refine⟨vs,ho,fun k hk=>hs _ (hg k hk),fun j hj=>?_⟩
 obtain⟨u,hu,a,n,cap,e,hn,hm,hel⟩:=he j hj
 refine⟨u,hu,a,n,cap,e,hn,hm,fun i hi=>?_⟩
 obtain⟨b,off,e,hS,hlt,rest⟩:=hel i hi
 exact⟨b,off,e,hs _ hS,hlt,rest⟩
theorem zIX:∀(m k:Nat) (a:Int),(comb m k a).length<=2 ^ m
 |0,0,a=>Nat.le_refl _
 |m+1,0,a=>Nat.one_le_two_pow
 |0,k+1,a=>by simp[comb]
 |m+1,k+1,a=>by
  simp only[comb,List.length_append,List.length_map]
  have h1:=zIX m k (a+1)
  have h2:=zIX m (k+1) (a+1)
  rw[Nat.pow_succ];omega
theorem ints_row{W:World}{it:Nat}{x:List Int}{sp:List Value}{E:TypeId}(h:W.heap[it]? =some (.cells (x.map (Value.int .i64)++sp).toArray E (0,0))):zAE W (some ⟨it,0,none⟩) x:=by
 intro j hj
 refine⟨it,0,rfl,(Array.getElem?_eq_some_iff.1 h).1,?_⟩
 rw[Nat.zero_add]
 simp[World.cell?,h,List.getElem?_append_left,hj]
def SIt(o Z it b:Nat):Prop:=b≠o∧b≠Z∧b≠Z+1∧b≠Z+2∧b≠Z+3∧b≠it
def CircI(w:World)(q1 q6 q7 base Z it:Nat)(mv:Value)(W:Nat)(D:List Deferred)(L:List (List Int))(Y:World):Prop:=
 ∃v,Boxed Y q1 23 mv∧Boxed Y q6 3 (.int .i64 W)∧Boxed Y q7 22 v∧Below w.heap.size w Y∧Z+2<=Y.heap.size∧zIH 3 24 Y base (SIt q7 Z it) v L∧zJD base Z D Y∧(∃u,Boxed Y Z 3 u)∧∃u,Boxed Y (Z+1) 3 u
theorem CircI.keep{w:World}{q1 q6 q7 base Z it it2:Nat}{mv:Value}{W:Nat}{D:List Deferred}{L:List (List Int)}{A B:World}(h:CircI w q1 q6 q7 base Z it mv W D L A)(hk:Keep (fun k=>k≠Z+2∧k≠Z+2+1∧k≠it2) A B)
 (h1:q1<Z)(h6:q6<Z)(h7:q7<Z)(hw:w.heap.size<=Z)(hi:Z+4<=it2)(e:it=it2):CircI w q1 q6 q7 base Z it mv W D L B:=by
 subst e
 obtain⟨v,y1,y6,y7,yB,yS,yR,yD,⟨u0,z0⟩,u1,z1⟩:=h
 refine⟨v,(hk.block _ y1.lt (by omega)).trans y1,(hk.block _ y6.lt (by omega)).trans y6,(hk.block _ y7.lt (by omega)).trans y7,hk.below yB (by omega) (fun k _=>by omega),Nat.le_trans yS hk.size,
           yR.keep (hk.mono fun k hk=>⟨hk.2.2.2.1,hk.2.2.2.2.1,hk.2.2.2.2.2⟩),yD.keep hk (fun k _ _ hk _=>by omega),⟨u0,(hk.block _ z0.lt (by omega)).trans z0⟩,u1,(hk.block _ z1.lt (by omega)).trans z1⟩
theorem CircI.below{w:World}{q1 q6 q7 base Z it:Nat}{mv:Value}{W:Nat}{D:List Deferred}{L:List (List Int)}{A B:World}(h:CircI w q1 q6 q7 base Z it mv W D L A)(hb:Below A.heap.size A B):CircI w q1 q6 q7 base Z it mv W D L B:=by
 obtain⟨v,y1,y6,y7,yB,yS,yR,yD,⟨u0,z0⟩,u1,z1⟩:=h
 exact⟨v,(hb.block _ y1.lt).trans y1,(hb.block _ y6.lt).trans y6,(hb.block _ y7.lt).trans y7,zAB yB hb,Nat.le_trans yS hb.size,yR.keep (Keep.of_below hb),zJD.keep (Keep.of_below hb:Keep (fun _=>True) A B) (fun _ _ _ _ _=>trivial) yD,⟨u0,(hb.block _ z0.lt).trans z0⟩,u1,(hb.block _ z1.lt).trans z1⟩
end
section
open Go.RowKit
def CircRes(p:List Int×Int)(e:Ending)(w:World):Prop:=∃b k c,e=.returned (.tuple #[.slice b k c,.int .i64 p.2])∧p.1.length=k∧k<=maxLen∧zAE w b p.1
theorem CircRes.nil(z:Int)(w:World):CircRes ([],z) (.returned (.tuple #[.slice none 0 0,.int .i64 z])) w:=⟨none,0,0,rfl,rfl,Nat.zero_le _,fun j hj=>by simp at hj⟩
end
section
open Go.RowKit
def twoM:Mask:=[[1,1,0],[0,1,1]]
theorem two_rows(w:World):zAL (((w.alloc (.cells #[.int .i64 1,.int .i64 1,.int .i64 0] 3)).alloc (.cells #[.int .i64 0,.int .i64 1,.int .i64 1] 3)).alloc (.cells #[.slice (some ⟨w.heap.size,0,none⟩) 3 3,.slice (some ⟨w.heap.size+1,0,none⟩) 3 3] 24)) (some ⟨w.heap.size+2,0,none⟩) twoM:=by
 obtain⟨w1,h1⟩:=exq (w.alloc (.cells #[.int .i64 1,.int .i64 1,.int .i64 0] 3))
 obtain⟨w2,h2⟩:=exq (w1.alloc (.cells #[.int .i64 0,.int .i64 1,.int .i64 1] 3))
 rw[<- h1,<- h2]
 have s1:w1.heap.size=w.heap.size+1:=by rw[h1];simp
 have s2:w2.heap.size=w.heap.size+2:=by rw[h2];simp[s1]
 have i1:zAE w1 (some ⟨w.heap.size,0,none⟩) [1,1,0]:=fun j hj=>⟨w.heap.size,0,rfl,by omega,by
  rw[h1,World.cell?_alloc_at _ _ _ _ (by simp)]
  match j,hj with
  |0,_=>rfl
  |1,_=>rfl
  |2,_=>rfl⟩
 have i2:zAE w2 (some ⟨w1.heap.size,0,none⟩) [0,1,1]:=fun j hj=>⟨w1.heap.size,0,rfl,by omega,by
  rw[h2,World.cell?_alloc_at _ _ _ _ (by simp)]
  match j,hj with
  |0,_=>rfl
  |1,_=>rfl
  |2,_=>rfl⟩
 rw[s1]at i2
 have b2:Below w1.heap.size w1 w2:=by rw[h2];exact(Below.refl _ _).alloc (Nat.le_refl _) _
 obtain⟨o,ho⟩:=exq (Obj.cells #[.slice (some ⟨w.heap.size,0,none⟩) 3 3,.slice (some ⟨w.heap.size+1,0,none⟩) 3 3] 24)
 rw[<- ho]
 have b3:Below w2.heap.size w2 (w2.alloc o):=(Below.refl _ _).alloc (Nat.le_refl _) _
 have hc:∀j,(w2.alloc o).cell? ⟨w.heap.size+2,j,none⟩=#[Value.slice (some ⟨w.heap.size,0,none⟩) 3 3,.slice (some ⟨w.heap.size+1,0,none⟩) 3 3][j]? :=fun j=>by
  rw[ho,World.cell?_alloc_at _ _ _ _ (by rw[s2])]
 intro j hj
 match j,hj with
 |0,_=>exact⟨_,0,some ⟨w.heap.size,0,none⟩,3,3,rfl,by simp[s2],hc 0,rfl,by decide,(i1.below b2).below b3⟩
 |1,_=>exact⟨_,0,some ⟨w.heap.size+1,0,none⟩,3,3,rfl,by simp[s2],hc 1,rfl,by decide,i2.below b3⟩
end
section
open Go.RowKit
def SomeB(e:Ending):Prop:=∃b,e=.returned (.bool b)
end
section
section
open Go.RowKit
theorem chosenT_c(w:World)(a:Option Addr)(n cap:Nat)(M:List (List Int))(hn:M.length=n)(hn6:n<=1000)(H:zAL w a M)(a2:Option Addr)(k2 cap2:Nat)(S:List Int)(hk2:S.length=k2)(hk21:k2<=1000)(H2:zAE w a2 S)
 (hS:∀r∈M,∀j∈S,0<=j∧j<r.length)(g:Nat)(lb:Array Value)(eg:∀args w,(callFunc g args).run Tryz.prog w=.ok (.enter g args) w)(mo:Nat->List Int)(hmo:MoreP Tryz.prog g lb w n mo)(hml:∀i,i<n->(mo i).length<=1000):
 Calls Tryz.prog 220 #[.slice a n cap,.slice a2 k2 cap2,.func (.func g) #[] lb] w fun e w'=>∃v,e=.returned v∧TabS w' w.heap.size v (zEL M S mo)∧Below w.heap.size w w':=by
 have HN:=hid hn
 have HH:=hid H
 have HK2:=hid hk2
 have HH2:=hid H2
 have HS:=hid hS
 have HMO:=hid hmo
 have HML:=hid hml
 have HCT:=hid (fun(k:Nat) (hk:k<M.length)=>zJQ (M:=M) (S:=S) (mo:=mo) hk)
 have HCL:=hid (zGX M S mo)
 obtain⟨C,hC⟩:=exq (zEL M S mo)
 rw[<- hC]at HCT HCL⊢
 clear hn H hk2 H2 hS hmo hml hC
 go_enter Tryz.func220,Tryz.ntmps220
 go_wp2
 go_loopw [7,15] (fun v i wr=>∃k:Nat,k<=n∧i=.int .i64 k∧TabS wr w.heap.size v (C.take k)∧Below w.heap.size w wr) (fun _ i _=>n-(intOf i).toNat)
 case atStart=>exact⟨0,Nat.zero_le _,rfl,TabS.nil _ _,Below.refl _ _⟩
 case round=>
  obtain⟨k,hk,rfl,ho,hbk⟩:=hrel
  obtain⟨wo,hwo⟩:=exq (wr)
  subst hwo
  by_cases hlt:k<n
  ·have hkM:k<M.length:=by rw[HN.out];exact hlt
   obtain⟨b,off,ra,rn,rc,rfl,hbs,hq0,hrn,hrm,hri⟩:=(HH.out.below hbk) k hkM
   have htk:=HCT.out k hkM
   have hsr:=HS.out M[k] (List.getElem_mem hkM)
   obtain⟨r,hr⟩:=exq (M[k])
   rw[<- hr]at htk hsr hrn hri
   have hlen:(C.take k).length=k:=by rw[List.length_take,HCL.out];omega
   have HL:=hid hlen
   have HTK:=hid htk
   have HSR:=hid hsr
   have HRN:=hid hrn
   have HRI:=hid hri
   have HO:=hid ho
   have HBK:=hid hbk
   obtain⟨va,vc,hv⟩:∃va vc,u7=.slice va k vc:=by
    obtain⟨_,ho1,_⟩:=ho
    obtain⟨a',c',e⟩:=zAH ho1
    exact⟨a',c',by rw[e,hlen]⟩
   subst hv
   clear hr htk hsr hrn hri hkM ho hlen
   go_wp2
   go_loopw [10,22] (fun v i wr=>∃t:Nat,t<=k2∧i=.int .i64 t∧wr.ownsRow wo.heap.size 3 1 v t (((S.take t).map (fun j=>vec r j.toNat)).map (Value.int .i64))∧Below wo.heap.size wo wr) (fun _ i _=>k2-(intOf i).toNat)
   case atStart=>exact⟨0,Nat.zero_le _,rfl,World.ownsRow_nil _ _ _ _,Below.refl _ _⟩
   case round=>
    obtain⟨t,ht,rfl,hown,hbt⟩:=hrel
    by_cases hlt2:t<k2
    ·have htS:t<S.length:=by rw[HK2.out];exact hlt2
     obtain⟨b2,off2,rfl,hbs2,hc2⟩:=(HH2.out.below (zAB HBK.out hbt)) t htS
     have hpp:=HSR.out S[t] (List.getElem_mem htS)
     have hg2:S[t]?.getD 0=S[t]:=by rw[List.getElem?_eq_getElem htS];rfl
     rw[hg2]at hc2
     have htk2:(S.take (t+1)).map (fun j=>vec r j.toNat)=(S.take t).map (fun j=>vec r j.toNat)++[vec r (S[t]).toNat]:=by
      rw[List.take_succ_eq_append_getElem htS,List.map_append];rfl
     obtain⟨q,hq⟩:∃q:Nat,S[t]=q:=⟨(S[t]).toNat,by omega⟩
     rw[hq]at hc2 hpp htk2
     rw[show((q:Int)).toNat=q by omega]at htk2
     have hqr:q<r.length:=by omega
     obtain⟨b3,off3,rfl,hbs3,hc3⟩:=(HRI.out.below hbt) q hqr
     have hqn:(q:Int)<(rn:Int):=by have:=HRN.out;omega
     have hq0':(0:Int)<=(q:Int):=by omega
     obtain⟨x,hx⟩:=exq (r[q]?.getD 0)
     have hxv:vec r q=x:=hx.symm
     rw[<- hx]at hc3
     rw[hxv]at htk2
     obtain⟨la,lc,rfl⟩:=zAH hown
     have HTK2:=hid htk2
     have HOW:=hid hown
     have M1:=hid (show t+1<=maxLen by unfold maxLen;omega)
     have M2:=hid (show(t+1)*8<=140737488355328 by omega)
     have M3:=hid (Nat.le_trans hbt.size (zCV wr (.cells #[.int .i64 x] 3)))
     clear hpp hg2 htk2 hq hx hxv hown htS hqr
     go_wp2_with (at_builtin;refine zBN _ rfl (.tmp 26) (.tmp 31) 24 rfl wo.heap.size 3 (.int .i64 0) 1 8 Tryz.underlying24 zGP rfl Nat.one_pos (.slice la t lc) t _ rfl (HOW.out.alloc _) (some ⟨wr.heap.size,0,none⟩) 1 1 [.int .i64 x] rfl rfl zDM (zDG wr _ _) (zKX _) M1.out M2.out M3.out ?_;refine Stop.of ?_)
     refine Stop.go ?_
     intro a3 c3 w3 own3 g3
     have hB3:Below wo.heap.size wo w3:=(hbt.alloc hbt.size _).grown g3 M3.out (fun k hk=>(HOW.out.lt k hk).1)
     go_wp2
     refine⟨⟨t+1,by omega,by go_num,?_,hB3⟩,by simp[intOf];omega⟩
     rw[HTK2.out]
     simpa using own3
    ·obtain rfl:t=k2:=by omega
     rw[List.take_of_length_le (by rw[HK2.out];exact Nat.le_refl _)]at hown
     obtain⟨la,lc,rfl⟩:=zAH hown
     have HMK:=hid (HMO.out k wr hlt (zAB HBK.out hbt))
     have HOW:=hid hown
     have hml:=HML.out k hlt
     obtain⟨m,hm⟩:=exq (mo k)
     rw[<- hm]at hml HMK HTK
     obtain⟨ml,hmle⟩:=exq (m.length)
     rw[<- hmle]at hml HMK
     have HME:=hid hmle
     clear hown hm hmle
     go_wp2_with (refine HMK.out.mono ?_;rintro e w2 ⟨ma,mc,rfl,hmi,hb2⟩;refine Stop.of ?_)
     refine Stop.go ?_
     have HO2:=hid (zBQ HOW.out hb2)
     have HMI:=hid hmi
     have HB2:=hid (zAB hbt hb2)
     have N1:=hid (show t+ml<=maxLen by unfold maxLen;omega)
     have N2:=hid (show(t+ml)*8<=140737488355328 by omega)
     have N3:=hid (show wo.heap.size<=w2.heap.size from HB2.out.size)
     have N4:=hid (show(m.map (Value.int .i64)).length=ml*1 by rw[List.length_map,HME.out];omega)
     have N5:=hid (show ma=none->ml=0 from fun h=>by rw[HME.out];exact ints_none hmi h)
     have N6:=hid (ints_news hmi)
     clear hmi hb2 hbt
     go_wp2_with (at_builtin;refine zBN _ rfl (.tmp 35) (.tmp 38) 24 rfl wo.heap.size 3 (.int .i64 0) 1 8 Tryz.underlying24 zGP rfl Nat.one_pos (.slice la t lc) t _ rfl HO2.out ma ml mc (m.map (Value.int .i64)) rfl N4.out N5.out N6.out (zNI _) N1.out N2.out N3.out ?_;refine Stop.of ?_)
     refine Stop.go ?_
     intro a3 c3 w3 own3 g3
     have hB3:Below wo.heap.size wo w3:=HB2.out.grown g3 N3.out (fun k hk=>(HO2.out.lt k hk).1)
     rw[<- List.map_map,<- List.map_append]at own3
     obtain⟨X,hX⟩:=exq (S.map (fun j=>vec r j.toNat)++m)
     rw[<- hX]at own3 HTK
     have hXl:X.length=t+ml:=by rw[hX,List.length_append,List.length_map,HK2.out,HME.out]
     have hsr:=rowS_own own3 hXl
     have HXL:=hid hXl
     obtain⟨vs,ho0,he⟩:=HO.out
     have HO0:=hid ho0
     have ho:=ho0
     rw[HL.out]at ho
     have hb2a:Below wo.heap.size wo (w3.alloc (.cells #[.slice a3 (t+ml) c3] 24)):=hB3.alloc hB3.size _
     have M1:=hid (show k+1<=maxLen by unfold maxLen;omega)
     have M2:=hid (show(k+1)*24<=140737488355328 by omega)
     have M3:=hid (Nat.le_trans HBK.out.size hb2a.size)
     have HO2':=hid (zBQ ho hb2a)
     have HE:=hid he
     have HSR2:=hid (hsr.below ((Below.refl _ w3).alloc (Nat.le_refl _) (.cells #[.slice a3 (t+ml) c3] 24)))
     have HB2':=hid hb2a
     have HOO:=hid ho
     clear he hsr hb2a ho ho0 own3 hX hXl hml hB3 g3
     go_wp2_with (at_builtin;refine zBN _ rfl (.tmp 34) (.tmp 40) 22 rfl w.heap.size 24 (.slice none 0 0) 1 24 Tryz.underlying22 li_ints rfl Nat.one_pos (.slice va k vc) k vs rfl HO2'.out (some ⟨w3.heap.size,0,none⟩) 1 1 [.slice a3 (t+ml) c3] rfl rfl zDM (zDG w3 _ _) (zHI _ _ _) M1.out M2.out M3.out ?_;refine Stop.of ?_)
     refine Stop.go ?_
     intro a5 c5 w5 own5 g5
     have hsn:TabS w5 w.heap.size (.slice a5 (k+1) c5) (C.take k++[X]):=TabS.snoc HO0.out HE.out HB2'.out HSR2.out g5 (by rw[HL.out];exact own5)
     have hB5:Below w.heap.size w w5:=(HBK.out.trans (HB2'.out.mono HBK.out.size)).grown g5 M3.out (fun q hq=>(HO2'.out.lt q hq).1)
     rw[<- HTK.out]at hsn
     go_wp2
     exact⟨⟨k+1,by omega,by go_num,hsn,hB5⟩,by simp[intOf];omega⟩
  ·obtain rfl:k=n:=by omega
   rw[List.take_of_length_le (by rw[HCL.out,HN.out];exact Nat.le_refl _)]at ho
   go_wp2
   go_ret
   exact⟨_,rfl,ho,hbk⟩
end
section
open Go.RowKit
def ascB(l:List Int):Bool:=decide (∀i,i<l.length-1->l[i]?.getD 0<l[i+1]?.getD 0)
def zFC(W:Nat)(l:List Int):Int:=if ascB l=true then(if l.all (fun p=>inB p 0 ((W:Int)-1))=true then 0 else 5)else 7
def pixE(M:Mask)(l:List Int):Int:=if okM M=true then zFC (zAA M) l else 1
theorem asc_pair{l:List Int}(h:ascB l=true):l.Pairwise (· < ·):=by
 have h1:∀i,i<l.length-1->l[i]?.getD 0<l[i+1]?.getD 0:=of_decide_eq_true h
 have h2:∀d i,i+d+1<l.length->l[i]?.getD 0<l[i+d+1]?.getD 0:=by
  intro d
  induction d with
  |zero=>intro i hi;exact h1 i (by omega)
  |succ d ih=>intro i hi;exact Int.lt_trans (ih i (by omega)) (h1 (i+d+1) (by omega))
 rw[List.pairwise_iff_getElem]
 intro i j hi hj hij
 have:=h2 (j-i-1) i (by omega)
 rw[show i+(j-i-1)+1=j by omega,List.getElem?_eq_getElem hi,List.getElem?_eq_getElem hj]at this
 exact this
theorem pair_asc{l:List Int}(h:l.Pairwise (· < ·)):ascB l=true:=by
 refine decide_eq_true fun i hi=>?_
 rw[List.getElem?_eq_getElem (by omega),List.getElem?_eq_getElem (by omega)]
 exact List.pairwise_iff_getElem.1 h i (i+1) (by omega) (by omega) (by omega)
theorem asc_no{l:List Int}{k:Nat}(hk:k+1<l.length)(h:¬l[k]?.getD 0<l[k+1]?.getD 0):ascB l=false:=decide_eq_false fun h1=>h (h1 k (by omega))
theorem asc_yes{l:List Int}(h:∀i,i+1<l.length->l[i]?.getD 0<l[i+1]?.getD 0):ascB l=true:=decide_eq_true fun i hi=>h i (by omega)
theorem named_ok{W:Nat}{l:List Int}(h:zFC W l=0):zCE W l:=by
 unfold zFC at h
 split at h
 ·rename_i h1
  split at h
  ·rename_i h2
   refine⟨asc_pair h1,fun y hy=>?_⟩
   have:=List.all_eq_true.1 h2 y hy
   unfold inB at this
   simp only[Bool.and_eq_true,decide_eq_true_eq]at this
   omega
  ·omega
 ·omega
theorem named1(w:World)(b:Nat)(m:Int)(hm:0<=m∧m<=1000000000)(hc:w.cell? ⟨b,0,none⟩=some (.int .i64 m))(hb:b<w.heap.size):
 zNU Tryz.prog 248 #[.pointer (some ⟨b,0,none⟩)] w (fun n=>!(inB n 0 (m-1))):=by
 intro x W hW
 have hc':W.cell? ⟨b,0,none⟩=some (.int .i64 m):=(hW.cell (p:=⟨b,0,none⟩) hb).trans hc
 obtain⟨z,hz⟩:=exq (m-1)
 have hw:IntKind.i64.wrap (m-1)=z:=by rw[hz];exact IntWalk.i64_in _ (by omega)
 rw[<- hz]
 obtain⟨B,hB⟩:=exq (inB x 0 z)
 have HP:=hid (zKQ x 0 z W)
 rw[<- hB]at HP
 simp only[<- hB]
 clear hB hc hz
 show Calls Tryz.prog 248 #[.int .i64 x,.pointer (some ⟨b,0,none⟩)] W _
 go_enter Tryz.func248,Tryz.ntmps248
 go_wp2_with (go_at_call 88;refine HP.out.mono ?_;rintro e w1 ⟨rfl,rfl⟩)
 go_ret
 exact⟨rfl,Below.refl _ _⟩
theorem named_c(w:World)(W:Nat)(hW:W<=1000)(a:Option Addr)(n cap:Nat)(l:List Int)(hn:l.length=n)(hm:n<=maxLen)(H:zAE w a l):
 Calls Tryz.prog 213 #[.int .i64 W,.slice a n cap] w fun e w'=>e=.returned (.int .i64 (zFC W l))∧Below w.heap.size w w':=by
 have HN:=hid hn
 have HH:=hid (fun(X:World) (hX:Below w.heap.size w X)=>H.below hX)
 obtain⟨E,hE⟩:=exq (zFC W l)
 rw[<- hE]
 have HE:=hid hE
 clear hn H hE
 have hm':n<=9223372036854775807:=by unfold maxLen at hm;omega
 go_enter Tryz.func213,Tryz.ntmps213
 obtain⟨w1,hw1⟩:=exq (w.alloc (.cells #[.int .i64 W] 3))
 have hb1:Below w.heap.size w w1:=by rw[hw1];exact(Below.refl _ _).alloc (Nat.le_refl _) _
 have hc1:w1.cell? ⟨w.heap.size,0,none⟩=some (.int .i64 W):=by rw[hw1,World.cell?_alloc_at _ _ _ _ rfl];rfl
 have hs1:w.heap.size<w1.heap.size:=by rw[hw1];simp
 have HB1:=hid hb1
 have HC1:=hid hc1
 have HW1:=hid hw1
 clear hb1 hc1 hw1
 go_wp2
 try rw[<- HW1.out]
 go_loopw [9] (fun i wr=>∃k:Nat,k<=n∧i=.int .i64 k∧wr=w1∧Hid (∀i,i+1<k->l[i]?.getD 0<l[i+1]?.getD 0)) (fun i _=>n-(intOf i).toNat)
 case atStart=>exact⟨0,Nat.zero_le _,rfl,by first|exact HW1.out.symm|rfl,hid (fun i h=>by omega)⟩
 case round=>
  obtain⟨k,hk,rfl,rfl,HNO⟩:=hrel
  by_cases hlt:k<n
  ·have hkl:k<l.length:=by rw[HN.out];exact hlt
   obtain⟨b,off,rfl,hbs,hc⟩:=(HH.out wr HB1.out) k hkl
   rcases Nat.eq_zero_or_pos k with h0|h0
   ·subst h0
    obtain⟨x,hx⟩:=exq (l[0]?.getD 0)
    rw[<- hx,Nat.add_zero]at hc
    clear hx hkl
    go_wp2
    exact⟨⟨1,by omega,by go_num,by first|trivial|rfl,hid (fun i h=>by omega)⟩,by simp[intOf];omega⟩
   ·obtain⟨p,rfl⟩:∃p,k=p+1:=⟨k-1,by omega⟩
    obtain⟨b',off',e',_,hc2⟩:=(HH.out wr HB1.out) p (by omega)
    cases e'
    have hpi:((p+1:Nat):Int)-1=(p:Int):=by omega
    have hpn:(p:Int)<(n:Int):=by omega
    have hpp:(0:Int)<((p+1:Nat):Int):=by omega
    have HNO2:=hid (fun(h:¬l[p]?.getD 0<l[p+1]?.getD 0)=>asc_no (by rw[HN.out];exact hlt) h)
    have HNX:=hid (fun(h:l[p]?.getD 0<l[p+1]?.getD 0)=>(show ∀i,i+1<p+1+1->l[i]?.getD 0<l[i+1]?.getD 0 from fun i hi=>by
     rcases Nat.lt_or_ge i p with h1|h1
     ·exact HNO.out i (by omega)
     ·have:i=p:=by omega
      subst this;exact h))
    obtain⟨x,hx⟩:=exq (l[p+1]?.getD 0)
    obtain⟨y,hy⟩:=exq (l[p]?.getD 0)
    rw[<- hx]at hc HNO2 HNX
    rw[<- hy]at hc2 HNO2 HNX
    clear hx hy hkl
    by_cases hle:x<=y
    ·have HA:=hid (HNO2.out (by omega))
     obtain rfl:E=7:=by rw[HE.out];unfold zFC;rw[HA.out];rfl
     go_wp2
     go_ret
     exact⟨rfl,HB1.out⟩
    ·have HX:=hid (HNX.out (by omega))
     go_wp2
     exact⟨⟨p+1+1,by omega,by go_num,by first|trivial|rfl,HX⟩,by simp[intOf];omega⟩
  ·obtain rfl:n=k:=by omega
   have HA:=hid (asc_yes (l:=l) (fun i hi=>HNO.out i (by rw[<- HN.out];exact hi)))
   have HCF:=hid (zGD wr a n cap l HN.out hm (HH.out wr HB1.out) 248 #[.pointer (some ⟨w.heap.size,0,none⟩)] (fun p=>!(inB p 0 ((W:Int)-1))) (enters_of Tryz.func248 (by kernel_rfl) rfl) (named1 wr w.heap.size W (by omega) HC1.out hs1))
   have hany:l.any (fun p=>!(inB p 0 ((W:Int)-1)))=!(l.all (fun p=>inB p 0 ((W:Int)-1))):=by rw[List.not_all_eq_any_not]
   rw[hany]at HCF
   have hee:=HE.out
   unfold zFC at hee
   rw[if_pos HA.out]at hee
   clear hany HNO
   cases hall:l.all (fun p=>inB p 0 ((W:Int)-1))
   ·rw[hall]at HCF hee
    obtain rfl:E=5:=hee
    clear hall
    go_wp2_with (go_at_call 105;refine HCF.out.mono ?_;rintro e w3 ⟨rfl,hb3⟩)
    go_ret
    exact⟨rfl,zAB HB1.out hb3⟩
   ·rw[hall]at HCF hee
    obtain rfl:E=0:=hee
    clear hall
    go_wp2_with (go_at_call 105;refine HCF.out.mono ?_;rintro e w3 ⟨rfl,hb3⟩)
    go_ret
    exact⟨rfl,zAB HB1.out hb3⟩
theorem pixels_c(w:World)(a a2:Option Addr)(n cap n2 cap2:Nat)(M:Mask)(l:List Int)(hn:M.length=n)(hn2:l.length=n2)(hm:n<=maxLen)(hm2:n2<=maxLen)(H:zAL w a M)(H2:zAE w a2 l):
 Calls Tryz.prog 163 #[.slice a n cap,.slice a2 n2 cap2] w fun e w'=>e=.returned (.int .i64 (pixE M l))∧Below w.heap.size w w':=by
 have HV:=hid (zGU w a n cap M hn hm H)
 cases hok:okM M
 ·rw[hok]at HV
  have he:pixE M l=1:=by unfold pixE;rw[hok];rfl
  rw[he]
  clear hn hn2 H H2 hok he
  go_enter Tryz.func163,Tryz.ntmps163
  go_wp2_with (go_at_call 79;refine HV.out.mono ?_;rintro e w1 ⟨rfl,hb1⟩)
  go_ret
  exact⟨rfl,hb1⟩
 ·rw[hok]at HV
  have he:pixE M l=zFC (zAA M) l:=by unfold pixE;rw[if_pos hok]
  rw[he]
  obtain⟨hM,h1,h6,hc1,hc10⟩:=zCN hok
  obtain⟨b,off,ra,rc,rfl,hb,hc⟩:=zCT H (by omega)
  have hz:(0:Int)<(n:Int):=by omega
  obtain⟨W,hW⟩:=exq (zAA M)
  rw[<- hW]at hc hc1 hc10⊢
  have HS:=hid (fun(X:World) (hX:Below w.heap.size w X)=>(hX.cell (p:=⟨b,off,none⟩) hb).trans hc)
  have HNM:=hid (fun(X:World) (hX:Below w.heap.size w X)=>named_c X W (by omega) a2 n2 cap2 l hn2 hm2 (H2.below hX))
  obtain⟨E,hE⟩:=exq (zFC W l)
  rw[<- hE]at HNM⊢
  clear hn hn2 H H2 hok he hM hW hE hc hb
  go_enter Tryz.func163,Tryz.ntmps163
  go_wp2_with (go_at_call 79;refine HV.out.mono ?_;rintro e w1 ⟨rfl,hb1⟩;refine Stop.of ?_)
  refine Stop.go ?_
  have hc1':=HS.out w1 hb1
  have HB1:=hid hb1
  clear hb1
  go_wp2_with (go_at_call 213;refine(HNM.out w1 HB1.out).mono ?_;rintro e w2 ⟨rfl,hb2⟩)
  go_ret
  exact⟨rfl,zAB HB1.out hb2⟩
theorem pix_ok{M:Mask}{l:List Int}(h:pixE M l=0):okM M=true∧zCE (zAA M) l:=by
 unfold pixE at h
 split at h
 ·rename_i h1;exact⟨h1,named_ok h⟩
 ·omega
theorem set_le{W:Nat}{l:List Int}(h:zCE W l):l.length<=W:=by
 have h1:(l.map Int.toNat).Pairwise (· < ·):=by
  rw[List.pairwise_map]
  refine h.1.imp_of_mem fun {a b} ha hb hab=>?_
  have:=h.2 a ha
  have:=h.2 b hb
  omega
 have:=zMN (a:=0) (b:=W) h1 (fun x hx=>by
  obtain⟨y,hy,rfl⟩:=List.mem_map.1 hx
  have:=h.2 y hy
  omega)
 rw[List.length_map]at this
 omega
end
section
open Go.RowKit
end
end
section
section
open Go.RowKit
def colV(M:List (List Int))(j:Nat):List Int:=M.map (fun r=>vec r j)
theorem colV_take{M:List (List Int)}{k:Nat}(hk:k<M.length)(j:Nat):(colV M j).take (k+1)=(colV M j).take k++[vec M[k] j]:=by
 have hc:k<(colV M j).length:=by simp[colV];exact hk
 rw[List.take_succ_eq_append_getElem hc]
 simp[colV]
theorem zDW(M:List (List Int))(j:Nat):(colV M j).length=M.length:=by simp[colV]
theorem colV_bnd{M:Mask}{W:Nat}(h:MaskOk M W)(j:Nat):BndL 67108864 (colV M j):=fun x hx=>by
 obtain⟨r,hr,rfl⟩:=List.mem_map.1 hx
 have:=h.one r hr j
 omega
def zCZ(M:Mask)(x:List Int):List Int:=M.map (fun r=>dotV r x)
theorem readV_take{M:Mask}{k:Nat}(hk:k<M.length)(x:List Int):(zCZ M x).take (k+1)=(zCZ M x).take k++[dotV M[k] x]:=by
 have hc:k<(zCZ M x).length:=by simp[zCZ];exact hk
 rw[List.take_succ_eq_append_getElem hc]
 simp[zCZ]
theorem mtimes_c(w:World)(a a2:Option Addr)(n cap n2 cap2:Nat)(r h:List Int)(hn:r.length=n)(hn2:h.length=n2)(hm:n<=1000)(hle:n<=n2)(H:zAE w a r)(H2:zAE w a2 h)(hr:BndL 67108864 r)(hh:BndL 67108864 h):
 Calls Tryz.prog 165 #[.slice a n cap,.slice a2 n2 cap2] w fun e w'=>e=.returned (.int .i64 (dotV r h))∧w=w':=by
 have HN:=hid hn
 have HN2:=hid hn2
 have HH:=hid H
 have HH2:=hid H2
 have HDL:=hid (dot_le hr hh)
 have HR:=hid hr
 have HHB:=hid hh
 have HD:=hid (show dotV r h=sm (fun c=>vec r c*vec h c) n by unfold dotV;rw[hn])
 clear hn hn2 H H2 hr hh
 go_enter Tryz.func165,Tryz.ntmps165
 go_wp2
 go_loop [5,10] (fun s i=>∃k:Nat,k<=n∧i=.int .i64 k∧s=.int .i64 (sm (fun c=>vec r c*vec h c) k)) (fun _ i=>n-(intOf i).toNat)
 case atStart=>exact⟨0,Nat.zero_le _,rfl,rfl⟩
 case round=>
  obtain⟨k,hk,rfl,rfl⟩:=hrel
  by_cases hlt:k<n
  ·have hkl:k<r.length:=by rw[HN.out];exact hlt
   have hkl2:k<h.length:=by rw[HN2.out];omega
   obtain⟨b,off,rfl,hbs,hc⟩:=HH.out k hkl
   obtain⟨b2,off2,rfl,hbs2,hc2⟩:=HH2.out k hkl2
   have g1:=HR.out.get hkl
   have g2:=HHB.out.get hkl2
   have e1:=HDL.out k
   have e2:=HDL.out (k+1)
   have es:sm (fun c=>vec r c*vec h c) (k+1)=sm (fun c=>vec r c*vec h c) k+r[k]?.getD 0*h[k]?.getD 0:=rfl
   obtain⟨x,hx⟩:=exq (r[k]?.getD 0)
   obtain⟨y,hy⟩:=exq (h[k]?.getD 0)
   rw[<- hx]at hc g1 es
   rw[<- hy]at hc2 g2 es
   obtain⟨s0,hs0⟩:=exq (sm (fun c=>vec r c*vec h c) k)
   rw[<- hs0]at es e1⊢
   rw[es]at e2
   have e3:=zIT (show-(67108864:Int)<=x∧x<=67108864 by omega) (show-(67108864:Int)<=y∧y<=67108864 by omega)
   obtain⟨m,hmm⟩:=exq (x*y)
   rw[<- hmm]at es e2 e3
   have w1:IntKind.i64.wrap (x*y)=m:=by rw[<- hmm];exact IntWalk.i64_in _ (by omega)
   have w2:IntKind.i64.wrap (s0+m)=s0+m:=IntWalk.i64_in _ (by omega)
   have HES:=hid es
   have i1:(0:Int)<=(k:Int):=by omega
   have i2:(k:Int)<(n:Int):=by omega
   have i3:(k:Int)<(n2:Int):=by omega
   clear hx hy hs0 hmm es e1 e2 e3 g1 g2 hkl hkl2
   go_wp2
   go_round
   case rel=>exact⟨k+1,by omega,by go_num,by rw[HES.out]⟩
   case measure=>simp[intOf];omega
  ·obtain rfl:n=k:=by omega
   go_wp2
   go_ret
   exact⟨zBP HD.out.symm,rfl⟩
theorem mcolumn_c(w:World)(a:Option Addr)(n cap:Nat)(M:Mask)(hn:M.length=n)(hm:n<=1000)(H:zAL w a M){W:Nat}(hw:∀r∈M,r.length=W)(j:Nat)(hj:j<W):
 Calls Tryz.prog 218 #[.slice a n cap,.int .i64 j] w fun e w'=>∃v,e=.returned v∧w'.ownsRow w.heap.size 3 1 v n ((colV M j).map (Value.int .i64))∧Below w.heap.size w w':=by
 have HN:=hid hn
 have HH:=hid H
 have HW:=hid hw
 have HCT:=hid (fun(k:Nat) (hk:k<M.length)=>colV_take hk j)
 have HCL:=hid (zDW M j)
 obtain⟨C,hC⟩:=exq (colV M j)
 rw[<- hC]at HCT HCL⊢
 clear hn H hw hC
 go_enter Tryz.func218,Tryz.ntmps218
 go_wp2
 go_loopw [5,10] (fun v i wr=>∃k:Nat,k<=n∧i=.int .i64 k∧wr.ownsRow w.heap.size 3 1 v k ((C.take k).map (Value.int .i64))∧Below w.heap.size w wr) (fun _ i _=>n-(intOf i).toNat)
 case atStart=>exact⟨0,Nat.zero_le _,rfl,World.ownsRow_nil _ _ _ _,Below.refl _ _⟩
 case round=>
  obtain⟨k,hk,rfl,ho,hbk⟩:=hrel
  by_cases hlt:k<n
  ·have hkM:k<M.length:=by rw[HN.out];exact hlt
   obtain⟨b,off,ra,rn,rc,rfl,hbs,hq0,hrn,hrm,hri⟩:=(HH.out.below hbk) k hkM
   have htk:=HCT.out k hkM
   have hwd:=HW.out M[k] (List.getElem_mem hkM)
   obtain rfl:rn=W:=by omega
   obtain⟨b2,off2,rfl,hbs2,hc2⟩:=hri j (by omega)
   have hxv:M[k][j]?.getD 0=vec M[k] j:=rfl
   rw[hxv]at hc2
   obtain⟨x,hx⟩:=exq (vec M[k] j)
   rw[<- hx]at hc2 htk
   obtain⟨la,lc,rfl⟩:=zAH ho
   have HTK:=hid htk
   have HO:=hid ho
   have M1:=hid (show k+1<=maxLen by unfold maxLen;omega)
   have M2:=hid (show(k+1)*8<=140737488355328 by omega)
   have M3:=hid (Nat.le_trans hbk.size (zCV wr (.cells #[.int .i64 x] 3)))
   have HBK:=hid hbk
   have hji:(j:Int)<(rn:Int):=by omega
   have hji0:(0:Int)<=(j:Int):=by omega
   clear htk hx hxv hwd hrn hrm hri ho hbk hkM hbs2
   go_wp2_with (at_builtin;refine zBN _ rfl (.tmp 14) (.tmp 19) 24 rfl w.heap.size 3 (.int .i64 0) 1 8 Tryz.underlying24 zGP rfl Nat.one_pos (.slice la k lc) k _ rfl (HO.out.alloc _) (some ⟨wr.heap.size,0,none⟩) 1 1 [.int .i64 x] rfl rfl zDM (zDG wr _ _) (zKX _) M1.out M2.out M3.out ?_;refine Stop.of ?_)
   refine Stop.go ?_
   intro a3 c3 w3 own3 g3
   have hB3:Below w.heap.size w w3:=(HBK.out.alloc HBK.out.size _).grown g3 M3.out (fun k hk=>(HO.out.lt k hk).1)
   go_wp2
   refine⟨⟨k+1,by omega,by go_num,?_,hB3⟩,by simp[intOf];omega⟩
   rw[HTK.out]
   simpa using own3
  ·obtain rfl:n=k:=by omega
   rw[List.take_of_length_le (by rw[HCL.out,HN.out];exact Nat.le_refl _)]at ho
   go_wp2
   go_ret
   exact⟨_,rfl,ho,hbk⟩
theorem zLX(w:World)(a:Option Addr)(n cap:Nat)(M:Mask)(hn:M.length=n)(hm:n<=1000)(H:zAL w a M){W:Nat}(hw:∀r∈M,r.length=W)(j:Nat)(hj:j<W):
 Calls Tryz.prog 111 #[.slice a n cap,.int .i64 j] w fun e w'=>∃v,e=.returned v∧w'.ownsRow w.heap.size 3 1 v n ((colV M j).map (Value.int .i64))∧Below w.heap.size w w':=by
 have HN:=hid hn
 have HH:=hid H
 have HW:=hid hw
 have HCT:=hid (fun(k:Nat) (hk:k<M.length)=>colV_take hk j)
 have HCL:=hid (zDW M j)
 obtain⟨C,hC⟩:=exq (colV M j)
 rw[<- hC]at HCT HCL⊢
 clear hn H hw hC
 go_enter Tryz.func111,Tryz.ntmps111
 go_wp2
 go_loopw [5,10] (fun v i wr=>∃k:Nat,k<=n∧i=.int .i64 k∧wr.ownsRow w.heap.size 3 1 v k ((C.take k).map (Value.int .i64))∧Below w.heap.size w wr) (fun _ i _=>n-(intOf i).toNat)
 case atStart=>exact⟨0,Nat.zero_le _,rfl,World.ownsRow_nil _ _ _ _,Below.refl _ _⟩
 case round=>
  obtain⟨k,hk,rfl,ho,hbk⟩:=hrel
  by_cases hlt:k<n
  ·have hkM:k<M.length:=by rw[HN.out];exact hlt
   obtain⟨b,off,ra,rn,rc,rfl,hbs,hq0,hrn,hrm,hri⟩:=(HH.out.below hbk) k hkM
   have htk:=HCT.out k hkM
   have hwd:=HW.out M[k] (List.getElem_mem hkM)
   obtain rfl:rn=W:=by omega
   obtain⟨b2,off2,rfl,hbs2,hc2⟩:=hri j (by omega)
   have hxv:M[k][j]?.getD 0=vec M[k] j:=rfl
   rw[hxv]at hc2
   obtain⟨x,hx⟩:=exq (vec M[k] j)
   rw[<- hx]at hc2 htk
   obtain⟨la,lc,rfl⟩:=zAH ho
   have HTK:=hid htk
   have HO:=hid ho
   have M1:=hid (show k+1<=maxLen by unfold maxLen;omega)
   have M2:=hid (show(k+1)*8<=140737488355328 by omega)
   have M3:=hid (Nat.le_trans hbk.size (zCV wr (.cells #[.int .i64 x] 3)))
   have HBK:=hid hbk
   have hji:(j:Int)<(rn:Int):=by omega
   have hji0:(0:Int)<=(j:Int):=by omega
   clear htk hx hxv hwd hrn hrm hri ho hbk hkM hbs2
   go_wp2_with (at_builtin;refine zBN _ rfl (.tmp 14) (.tmp 19) 24 rfl w.heap.size 3 (.int .i64 0) 1 8 Tryz.underlying24 zGP rfl Nat.one_pos (.slice la k lc) k _ rfl (HO.out.alloc _) (some ⟨wr.heap.size,0,none⟩) 1 1 [.int .i64 x] rfl rfl zDM (zDG wr _ _) (zKX _) M1.out M2.out M3.out ?_;refine Stop.of ?_)
   refine Stop.go ?_
   intro a3 c3 w3 own3 g3
   have hB3:Below w.heap.size w w3:=(HBK.out.alloc HBK.out.size _).grown g3 M3.out (fun k hk=>(HO.out.lt k hk).1)
   go_wp2
   refine⟨⟨k+1,by omega,by go_num,?_,hB3⟩,by simp[intOf];omega⟩
   rw[HTK.out]
   simpa using own3
  ·obtain rfl:n=k:=by omega
   rw[List.take_of_length_le (by rw[HCL.out,HN.out];exact Nat.le_refl _)]at ho
   go_wp2
   go_ret
   exact⟨_,rfl,ho,hbk⟩
end
section
open Go.RowKit
end
section
open Go.RowKit
def zNH(l:List Int)(len most:Int):Int:=if (l.length:Int)=len then(if l.all (fun n=>inB n (-most) most)=true then 0 else 7)else 9
theorem zLW(w:World)(a:Option Addr)(n cap:Nat)(l:List Int)(hn:l.length=n)(hm:n<=maxLen)(H:zAE w a l)(len most:Int)(h0:0<=most)(h9:most<=1000000000):
 Calls Tryz.prog 108 #[.slice a n cap,.int .i64 len,.int .i64 most] w fun e w'=>e=.returned (.int .i64 (zNH l len most))∧w=w':=by
 have HN:=hid hn
 have HH:=hid H
 clear hn H
 unfold maxLen at hm
 by_cases hl:(n:Int)=len
 ·have hd:((n:Int) !=len)=false:=by simp[hl]
  have HL:=hid hl
  clear hl
  go_enter Tryz.func108,Tryz.ntmps108
  go_wp2
  go_loop [15] (fun i=>∃k:Nat,k<=n∧i=.int .i64 k∧∀j (hj:j<l.length),j<k->inB l[j] (-most) most=true) (fun i=>n-(intOf i).toNat)
  case atStart=>exact⟨0,Nat.zero_le _,rfl,fun i _ h=>by omega⟩
  case round=>
   obtain⟨k,hk,rfl,hno⟩:=hrel
   have HNO:=hid hno
   clear hno
   by_cases hlt:k<n
   ·have hkl:k<l.length:=by rw[HN.out];exact hlt
    obtain⟨b,off,rfl,hbs,hc⟩:=HH.out k hkl
    have hg:l[k]?.getD 0=l[k]:=by rw[List.getElem?_eq_getElem hkl];rfl
    rw[hg]at hc
    obtain⟨B,hB⟩:=exq (inB l[k] (-most) most)
    have HW:=hid (fun W=>zFA l[k] (-most) most W)
    rw[<- hB]at HW
    have HBB:=hid hB
    have HKL:=hid hkl
    clear hg hB
    cases B
    ·go_wp2_with (go_at_call 131;refine(HW.out _).mono ?_;rintro e w1 ⟨rfl,rfl⟩)
     go_ret
     refine⟨zBP ?_,rfl⟩
     unfold zNH
     rw[zIG HKL.out HBB.out.symm,HN.out,if_pos HL.out];simp
    ·go_wp2_with (go_at_call 131;refine(HW.out _).mono ?_;rintro e w1 ⟨rfl,rfl⟩)
     go_round
     case rel=>
      refine⟨k+1,by omega,by go_num,fun j hj hjk=>?_⟩
      by_cases e:j=k
      ·subst e;exact HBB.out.symm
      ·exact HNO.out j hj (by omega)
     case measure=>simp[intOf];omega
   ·go_wp2
    go_ret
    refine⟨zBP ?_,rfl⟩
    unfold zNH
    rw[HN.out,if_pos HL.out,zKC (fun j hj=>HNO.out j hj (by have:=HN.out;omega))];simp
 ·have hd:((n:Int) !=len)=true:=by simp[hl]
  have HL:=hid hl
  clear hl
  go_enter Tryz.func108,Tryz.ntmps108
  go_wp2
  go_ret
  exact⟨zBP (by unfold zNH;rw[HN.out,if_neg HL.out]),rfl⟩
def zFI(M:Mask)(x:List Int):Bool:=okM M&&(decide (x.length=zAA M)&&milB x)
theorem listE_shown{M:Mask}(hM:okM M=true)(x:List Int):(zNH x (zAA M) 1000000==0)=zFI M x:=by
 unfold zNH zFI milB
 rw[hM]
 by_cases h:x.length=zAA M
 ·rw[if_pos (by omega),decide_eq_true h]
  cases h2:x.all (fun n=>inB n (-1000000) 1000000)<;>rfl
 ·rw[if_neg (by omega),decide_eq_false h];rfl
theorem listE_ok{l:List Int}{len most:Int}(h1:(l.length:Int)=len)(h2:l.all (fun n=>inB n (-most) most)=true):zNH l len most=0:=by
 unfold zNH;rw[if_pos h1,if_pos h2]
theorem r2Shown_c(w:World)(a:Option Addr)(n cap:Nat)(M:Mask)(hn:M.length=n)(hm:n<=maxLen)(H:zAL w a M)(a2:Option Addr)(n2 cap2:Nat)(x:List Int)(hn2:x.length=n2)(hm2:n2<=maxLen)(H2:zAE w a2 x):
 Calls Tryz.prog 49 #[.slice a n cap,.slice a2 n2 cap2] w fun e w'=>e=.returned (.bool (zFI M x))∧w=w':=by
 have HV:=hid (zHL w a n cap M hn hm H)
 cases hv:okM M
 ·rw[hv]at HV
  have HE:=hid hv
  clear hv hn H hn2 H2
  go_enter Tryz.func49,Tryz.ntmps49
  go_wp2_with (go_at_call 68;refine HV.out.mono ?_;rintro e w1 ⟨rfl,rfl⟩)
  go_ret
  exact⟨zAX (by unfold zFI;rw[HE.out];simp),rfl⟩
 ·rw[hv]at HV
  obtain⟨hM,h1,h6,hc1,hc10⟩:=zCN hv
  obtain⟨b,off,ra,rc,rfl,hb,hc⟩:=zCT H (by omega)
  have HL:=hid (zLW w a2 n2 cap2 x hn2 hm2 H2 ((zAA M:Nat):Int) 1000000 (by omega) (by omega))
  have HS:=hid (listE_shown hv x)
  obtain⟨W,hW⟩:=exq (zAA M)
  rw[<- hW]at HL HS hc
  obtain⟨E,hE⟩:=exq (zNH x W 1000000)
  rw[<- hE]at HL HS
  have hc0:w.cell? ⟨b,off,none⟩=some (.slice ra W rc):=hc
  have h0:(0:Int)<(n:Int):=by omega
  clear hv hn H hn2 H2 hE hW hM hc h1 h6
  go_enter Tryz.func49,Tryz.ntmps49
  go_wp2_with (first| (go_at_call 68;refine HV.out.mono ?_;rintro e w1 ⟨rfl,rfl⟩)| (go_at_call 108;refine HL.out.mono ?_;rintro e w1 ⟨rfl,rfl⟩))
  go_ret
  exact⟨zAX (by rw[<- HS.out]),rfl⟩
theorem r2Read_c(w:World)(a a2:Option Addr)(n cap n2 cap2:Nat)(M:Mask)(x:List Int)(hn:M.length=n)(hn2:x.length=n2)(H:zAL w a M)(H2:zAE w a2 x)(hok:okM M=true)(hx2:x.length=zAA M)(hx:milB x=true):
 Calls Tryz.prog 50 #[.slice a n cap,.slice a2 n2 cap2] w fun e w'=>∃v,e=.returned (.tuple #[v,.int .i64 0])∧w'.ownsRow w.heap.size 3 1 v n ((zCZ M x).map (Value.int .i64))∧Below w.heap.size w w':=by
 obtain⟨hM,h1,h6,hc1,hc10⟩:=zCN hok
 obtain⟨b,off,ra,rc,rfl,hb,hc⟩:=zCT H (by omega)
 have hn6:n<=6:=by omega
 have hni:(0:Int)<(n:Int):=by omega
 have HV:=hid (zHL w (some ⟨b,off,none⟩) n cap M hn (by unfold maxLen;omega) H)
 rw[hok]at HV
 have HL:=hid (zLW w a2 n2 cap2 x hn2 (by unfold maxLen;omega) H2 ((zAA M:Nat):Int) 1000000 (by omega) (by omega))
 rw[listE_ok (by omega) hx]at HL
 obtain⟨W,hW⟩:=exq (zAA M)
 rw[<- hW]at hc hc1 hc10 hM HL hx2
 have hc0:w.cell? ⟨b,off,none⟩=some (.slice ra W rc):=hc
 have hwx:n2=W:=by omega
 subst hwx
 have HRR:=hid (fun(X:World) (hX:Below w.heap.size w X)=>H.below hX)
 have HDT:=hid (fun(X:World) (hX:Below w.heap.size w X) (r:List Int) (hr:r∈M) (a5:Option Addr) (c5:Nat) (hi:zAE X a5 r)=>r2dot_c X a5 a2 n2 c5 n2 cap2 r x (hM.wid r hr) hn2 (by omega) (Nat.le_refl _) hi (H2.below hX) (one_bnd hM r hr) (mil_bnd hx))
 have HWID:=hid hM.wid
 have HN:=hid hn
 have HTK:=hid (fun(k:Nat) (hk:k<M.length)=>readV_take hk x)
 have HBL:=hid (show(zCZ M x).length=n by simp[zCZ];exact hn)
 obtain⟨Bk,hBk⟩:=exq (zCZ M x)
 rw[<- hBk]at HTK HBL⊢
 clear hn H H2 hok hx hM hW hBk hc h1 h6 hb hx2 hn2
 go_enter Tryz.func50,Tryz.ntmps50
 go_wp2_with (first| (go_at_call 68;refine HV.out.mono ?_;rintro e w1 ⟨rfl,rfl⟩)| (go_at_call 108;refine HL.out.mono ?_;rintro e w1 ⟨rfl,rfl⟩))
 go_loopw [7,24] (fun v i wr=>∃k:Nat,k<=n∧i=.int .i64 k∧wr.ownsRow w.heap.size 3 1 v k ((Bk.take k).map (Value.int .i64))∧Below w.heap.size w wr) (fun _ i _=>n-(intOf i).toNat)
 case atStart=>exact⟨0,Nat.zero_le _,rfl,World.ownsRow_nil _ _ _ _,Below.refl _ _⟩
 case round=>
  obtain⟨k,hk,rfl,ho,hbk⟩:=hrel
  by_cases hlt:k<n
  ·have hkM:k<M.length:=by rw[HN.out];exact hlt
   have htk:=HTK.out k hkM
   obtain⟨b5,o5,ra5,rn5,rc5,e5,hbs,hq0,hrn,hrm,hri⟩:=(HRR.out wr hbk) k hkM
   cases e5
   obtain rfl:rn5=n2:=by rw[<- hrn];exact HWID.out _ (List.getElem_mem hkM)
   have HD:=hid (HDT.out wr hbk M[k] (List.getElem_mem hkM) ra5 rc5 hri)
   obtain⟨la,lc,rfl⟩:=zAH ho
   obtain⟨y,hy⟩:=exq (dotV M[k] x)
   rw[<- hy]at HD htk
   have HTKK:=hid htk
   have HO:=hid ho
   have HBK:=hid hbk
   have M1:=hid (show k+1<=maxLen by unfold maxLen;omega)
   have M2:=hid (show(k+1)*8<=140737488355328 by omega)
   have hki:(k:Int)<(n:Int):=by omega
   clear ho hbk htk hy hrn hri hkM
   go_wp2_with (go_at_call 54;refine HD.out.mono ?_;rintro e w4 ⟨rfl,q4,rfl⟩;refine Stop.of ?_)
   refine Stop.go ?_
   have hb4:Below wr.heap.size wr (wr.drewN q4):=zBW (Below.refl _ _) q4
   have HO4:=hid (zBQ HO.out hb4)
   have HB4:=hid (zAB HBK.out hb4)
   have M3:=hid (Nat.le_trans HB4.out.size (zCV (wr.drewN q4) (.cells #[.int .i64 y] 3)))
   clear hb4
   generalize wr.drewN q4=w4 at HO4 HB4 M3⊢
   go_wp2_with (at_builtin;refine zBN _ rfl (.tmp 28) (.tmp 32) 24 rfl w.heap.size 3 (.int .i64 0) 1 8 Tryz.underlying24 zGP rfl Nat.one_pos (.slice la k lc) k _ rfl (HO4.out.alloc _) (some ⟨w4.heap.size,0,none⟩) 1 1 [.int .i64 y] rfl rfl zDM (zDG w4 _ _) (zKX _) M1.out M2.out M3.out ?_;refine Stop.of ?_)
   refine Stop.go ?_
   intro a6 c6 w6 own6 g6
   have hB6:Below w.heap.size w w6:=(HB4.out.alloc HB4.out.size _).grown g6 M3.out (fun k hk=>(HO4.out.lt k hk).1)
   go_wp2
   refine⟨⟨k+1,by omega,by go_num,?_,hB6⟩,by simp[intOf];omega⟩
   rw[HTKK.out]
   simpa using own6
  ·obtain rfl:n=k:=by omega
   rw[List.take_of_length_le (by rw[HBL.out];exact Nat.le_refl _)]at ho
   have HO:=hid ho
   have HB:=hid hbk
   clear ho hbk
   go_wp2
   go_ret2
   exact⟨_,rfl,HO.out,HB.out⟩
end
section
open Go.RowKit
end
section
open Go.RowKit
theorem sm_swap(m:Nat->Nat->Int)(x z:Nat->Int)(n:Nat):∀k,sm (fun i=>z i*sm (fun j=>m i j*x j) n) k=sm (fun j=>sm (fun i=>m i j*z i) k*x j) n
 |0=>by
  show 0=_
  rw[<- zCR n]
  exact zAG fun j _=>by show(0:Int)=0*x j;simp
 |k+1=>by
  show sm (fun i=>z i*sm (fun j=>m i j*x j) n) k+z k*sm (fun j=>m k j*x j) n=_
  rw[sm_swap m x z n k,<- zCC,<- zEN]
  refine zAG fun j _=>?_
  show sm (fun i=>m i j*z i) k*x j+z k*(m k j*x j)=(sm (fun i=>m i j*z i) k+m k j*z k)*x j
  grind
theorem vec_map_list{α:Type}(f:α->Int)(l:List α){i:Nat}(hi:i<l.length):vec (l.map f) i=f l[i]:=by
 unfold vec;rw[List.getElem?_map,List.getElem?_eq_getElem hi];rfl
end
end
end Go.Proofs.YtlffndehhhpgjaaGreat
