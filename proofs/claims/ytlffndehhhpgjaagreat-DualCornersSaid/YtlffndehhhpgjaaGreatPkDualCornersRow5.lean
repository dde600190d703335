/- Walks and plain laws for DualCornersRow, part 5. -/
import Derived.Sort.QuietIn
import Derived.Sort.LoopGhostIn
import Derived.Sort.CutIn
import Derived.Test.YtlffndehhhpgjaaGreatPkDualCornersRow4
namespace Go.Proofs.YtlffndehhhpgjaaGreat
set_option linter.unusedVariables false
set_option linter.unusedSimpArgs false
set_option maxRecDepth 100000
set_option maxHeartbeats 4000000
section
open Go.RowKit
theorem zML(n lo hi:Int)(w:World):Calls Tryz.prog 88 #[.int .i64 n,.int .i64 lo,.int .i64 hi] w fun e w'=>e=.returned (.bool (inB n lo hi))∧w=w':=by
 by_cases h1:lo<=n<;>by_cases h2:n<=hi
 all_goals
  go_enter Tryz.func88,Tryz.ntmps88
  go_wp2
  go_ret
  exact⟨zAT (by simp[inB,h1,h2]),rfl⟩
theorem beyond1(w:World)(b:Nat)(m:Int)(hm:0<=m∧m<=1000000000)(hc:w.cell? ⟨b,0,none⟩=some (.int .i64 m))(hb:b<w.heap.size):
 PredI Tryz.prog 167 #[.pointer (some ⟨b,0,none⟩)] w (fun n=>!(inB n (-m) m)):=by
 intro x W hW
 have hc':W.cell? ⟨b,0,none⟩=some (.int .i64 m):=(hW.cell (p:=⟨b,0,none⟩) hb).trans hc
 obtain⟨z,hz⟩:=exq (-m)
 have hw:IntKind.i64.wrap (-m)=z:=by rw[hz];exact IntWalk.i64_in _ (by omega)
 rw[<- hz]
 obtain⟨B,hB⟩:=exq (inB x z m)
 have HP:=hid (zML x z m W)
 rw[<- hB]at HP
 simp only[<- hB]
 clear hB hc hz
 show Calls Tryz.prog 167 #[.int .i64 x,.pointer (some ⟨b,0,none⟩)] W _
 go_enter Tryz.func167,Tryz.ntmps167
 go_wp2_with (go_at_call 88;refine HP.out.mono ?_;rintro e w1 ⟨rfl,rfl⟩)
 go_ret
 exact⟨rfl,Below.refl _ _⟩
def milB(l:List Int):Bool:=l.all (fun n=>inB n (-1000000) 1000000)
end
section
open Go.RowKit
theorem any_mil(h:List Int):h.any (fun n=>!(inB n (-1000000) 1000000))=!milB h:=by unfold milB;rw[List.not_all_eq_any_not]
theorem beyond_c(w:World)(m:Int):Calls Tryz.prog 106 #[.int .i64 m] w fun e w'=>∃b,e=.returned (.func (.func 167) #[] #[.pointer (some ⟨b,0,none⟩)])∧w'.cell? ⟨b,0,none⟩=some (.int .i64 m)∧b<w'.heap.size∧Below w.heap.size w w':=by
 go_enter Tryz.func106,Tryz.ntmps106
 go_wp2
 go_ret
 exact⟨w.heap.size,rfl,by rw[World.cell?_alloc_at _ _ _ _ rfl];rfl,by simp,(Below.refl _ _).alloc (Nat.le_refl _) _⟩
end
section
open Go.RowKit
theorem mil_le{h:List Int}(e:milB h=true):∀x∈h,-1000000<=x∧x<=1000000:=by
 intro x hx
 have:=List.all_eq_true.1 e x hx
 unfold inB at this
 simp only[Bool.and_eq_true,decide_eq_true_eq]at this
 omega
end
section
theorem upF_get:∀(m:Nat) (a:Int) (j:Nat),j<m->(upF a m)[j]? =some (a+j)
 |0,_,_,h=>by omega
 |m+1,a,0,_=>by simp[upF]
 |m+1,a,j+1,h=>by
  show(upF (a+1) m)[j]? =_
  rw[upF_get m (a+1) j (by omega)];congr 1;omega
theorem upF_snoc:∀(m:Nat) (a:Int),upF a (m+1)=upF a m++[a+m]
 |0,a=>by simp[upF]
 |m+1,a=>by
  show a::upF (a+1) (m+1)=a::(upF (a+1) m++_)
  rw[upF_snoc m (a+1)]
  congr 3;omega
theorem upF_range(m:Nat):∀a:Nat,upF (a:Int) m=(List.range' a m).map (fun j:Nat=>(j:Int)):=by
 induction m with
 |zero=>intro a;rfl
 |succ m ih=>
  intro a
  show(a:Int)::upF ((a:Int)+1) m=_
  have:=ih (a+1)
  rw[show((a:Int)+1)=((a+1:Nat):Int)by omega,this]
  simp[List.range'_succ]
def zNK(n k:Nat)(x:List Int)(m:Nat):Prop:=∀j,m<=j->j<k->x[j]? =some ((n:Int)-k+j)
theorem tail_le{n k m:Nat}{x:List Int}(hl:x.length=k)(hp:x.Pairwise (· < ·))(hb:∀y∈x,y<(n:Int))(hm:m<k)(ht:zNK n k x (m+1)):x[m]?.getD 0<=(n:Int)-k+m:=by
 have hml:m<x.length:=by omega
 rw[List.getElem?_eq_getElem hml]
 by_cases e:m+1=k
 ·have:=hb _ (List.getElem_mem hml);simp;omega
 ·have h1:=ht (m+1) (Nat.le_refl _) (by omega)
  have hml1:m+1<x.length:=by omega
  rw[List.getElem?_eq_getElem hml1]at h1
  have h2:=List.pairwise_iff_getElem.1 hp m (m+1) hml hml1 (by omega)
  have h3:=Option.some.inj h1
  simp;omega
theorem tail_step{n k m:Nat}{x:List Int}(hl:x.length=k)(hm:m<k)(ht:zNK n k x (m+1))(he:x[m]?.getD 0=(n:Int)-k+m):zNK n k x m:=by
 intro j h1 h2
 by_cases e:j=m
 ·subst e
  rw[List.getElem?_eq_getElem (by omega)]at he⊢
  rw[<- he];rfl
 ·exact ht j (by omega) h2
theorem tail_drop{n k m:Nat}{x:List Int}(hl:x.length=k)(hk:k<=n)(hm:m<=k)(ht:zNK n k x m):x.drop m=upF ((n:Int)-(k-m:Nat)) (k-m):=by
 apply List.ext_getElem?
 intro j
 rw[List.getElem?_drop]
 rcases Nat.lt_or_ge j (k-m)with h|h
 ·rw[ht (m+j) (by omega) (by omega),upF_get _ _ _ h];congr 1;omega
 ·rw[List.getElem?_eq_none (by omega),List.getElem?_eq_none (by rw[zHT];omega)]
theorem next_none{n k:Nat}{x:List Int}(hl:x.length=k)(hk:k<=n)(ht:zNK n k x 0):zHX n x=none:=by
 have:=tail_drop hl hk (Nat.zero_le _) ht
 rw[List.drop_zero,Nat.sub_zero]at this
 rw[this]
 exact zPH k _ (by omega)
def zJD(x:List Int)(m j:Nat):List Int:=x.take m++upF (x[m]?.getD 0+1) (j-m)++x.drop j
theorem fillS_len{x:List Int}{m j:Nat}(h1:m<=j)(h2:j<=x.length):(zJD x m j).length=x.length:=by
 unfold zJD;simp[zHT];omega
theorem fillS_get{x:List Int}{m j:Nat}(h1:m<j)(h2:j<=x.length):(zJD x m j)[j-1]?.getD 0=x[m]?.getD 0+(j-m:Nat):=by
 unfold zJD
 rw[List.getElem?_append_left (by simp[zHT];omega),List.getElem?_append_right (by simp;omega)]
 simp only[List.length_take]
 rw[show j-1-min m x.length=j-m-1 by omega,upF_get _ _ _ (by omega)]
 simp;omega
theorem fillS_set{x:List Int}{m j:Nat}(h1:m<=j)(h2:j<x.length):(zJD x m j).set j (x[m]?.getD 0+(j+1-m:Nat))=zJD x m (j+1):=by
 unfold zJD
 have hl:(x.take m++upF (x[m]?.getD 0+1) (j-m)).length=j:=by simp[zHT];omega
 rw[List.set_append_right _ _ (by omega),hl,Nat.sub_self,List.drop_eq_getElem_cons h2,List.set_cons_zero,show j+1-m=(j-m)+1 by omega,upF_snoc]
 simp
 omega
theorem fillS_start{x:List Int}{m:Nat}(hm:m<x.length):x.set m (x[m]?.getD 0+1)=zJD x m (m+1):=by
 have:=fillS_set (x:=x) (m:=m) (j:=m) (Nat.le_refl _) hm
 rw[show m+1-m=1 by omega]at this
 unfold zJD at this⊢
 rw[<- this]
 simp[upF]
theorem fillS_done{n k m:Nat}{x:List Int}(hl:x.length=k)(hk:k<=n)(hm:m<k)(ht:zNK n k x (m+1))(hlt:x[m]?.getD 0<(n:Int)-k+m):zHX n x=some (zJD x m k):=by
 have h1:=tail_drop hl hk (by omega) ht
 have hml:m<x.length:=by omega
 have hx:x=x.take m++x[m]::upF ((n:Int)-(k-(m+1):Nat)) (k-(m+1)):=by
  rw[<- h1,<- List.drop_eq_getElem_cons hml,List.take_append_drop]
 have hd:x[m]?.getD 0=x[m]:=by rw[List.getElem?_eq_getElem hml];rfl
 rw[hd]at hlt
 have h2:=nextS_at (n:=(n:Int)) (m:=k-(m+1)) (d:=x[m]) (by omega) (x.take m)
 rw[<- hx]at h2
 rw[h2]
 unfold zJD
 rw[hd,List.drop_eq_nil_of_le (by omega),List.append_nil,show k-(m+1)+1=k-m by omega]
theorem zKU{α:Type}{l:List α}{i:Nat}{x:α}(h:l[i]? =some x):l.take i++[x]=l.take (i+1):=by
 obtain⟨hi,rfl⟩:=List.getElem?_eq_some_iff.1 h
 rw[List.take_succ_eq_append_getElem hi]
theorem take_all_at{α:Type}{l:List α}{i:Nat}{x:α}(h:l[i]? =some x)(hn:l[i+1]? =none):l.take (i+1)=l:=by
 exact List.take_of_length_le (List.getElem?_eq_none_iff.1 hn)
end
section
open Go.RowKit
attribute [local go_sem] Oper.semAt_some
theorem allI_upF(n:Nat):allI n=upF 0 n:=by
 have:=upF_range n 0
 rw[show((0:Nat):Int)=0 from rfl]at this
 rw[this]
 unfold allI
 rw[List.range_eq_range']
theorem iter_sets(w0:World)(n k kb nb:Nat)(hn:n<=1000)(hk:k<=1000)(hk1:1<=k)(hkb:kb<w0.heap.size)(hnb:nb<w0.heap.size)(hf0:w0.cell? ⟨kb,0,none⟩=some (.int .i64 k))(hf1:w0.cell? ⟨nb,0,none⟩=some (.int .i64 n)):
 IterInts Tryz.prog 3 222 #[.pointer (some ⟨kb,0,none⟩),.pointer (some ⟨nb,0,none⟩)] (comb n k 0) (fun q=>q=kb∨q=nb) w0:=by
 obtain⟨xs,hxs⟩:=exq (comb n k 0)
 have hfacts:∀x∈xs,x.length=k∧x.Pairwise (· < ·)∧(∀y∈x,y<(n:Int))∧∀j:Nat,(0:Int)<=x[j]?.getD 0:=fun x hx=>by
  rw[hxs]at hx
  obtain⟨h1,h2⟩:=zJI n k 0 x hx
  exact⟨zDD n k 0 x hx,h1,fun y hy=>by have:=(h2 y hy).2;omega,fun j=>by
   rcases Nat.lt_or_ge j x.length with h|h
   ·rw[List.getElem?_eq_getElem h];have:=(h2 _ (List.getElem_mem h)).1;simp;omega
   ·rw[List.getElem?_eq_none h];simp⟩
 have hchn:Chn n none xs:=by rw[hxs];have:=zPU n k 0;rwa [Int.zero_add]at this
 have hhead:k<=n->xs[0]? =some (upF 0 k):=fun hkn=>by
  rw[hxs]
  obtain⟨t,ht⟩:=zNG n k 0 hkn
  rw[ht];rfl
 have hnil:¬k<=n->xs=[]:=fun h=>by rw[hxs];exact zGY n k 0 (by omega)
 rw[<- hxs]
 have HF:=hid hfacts
 have HC:=hid hchn
 have HH:=hid hhead
 have HNL:=hid hnil
 clear hfacts hchn hhead hnil hxs
 intro l J Jx W hb hJ hY h0
 have hg0:W.cell? ⟨kb,0,none⟩=some (.int .i64 k):=(hb.cell (p:=⟨kb,0,none⟩) hkb).trans hf0
 have hg1:W.cell? ⟨nb,0,none⟩=some (.int .i64 n):=(hb.cell (p:=⟨nb,0,none⟩) hnb).trans hf1
 have hkW:kb<W.heap.size:=Nat.lt_of_lt_of_le hkb hb.size
 have hnW:nb<W.heap.size:=Nat.lt_of_lt_of_le hnb hb.size
 have HJ:=hid hJ
 have HY:=hid hY
 have H0:=hid h0
 have HALL:=hid (all_c W k hk)
 clear hJ hY h0 hf0 hf1 hb
 refine callsIn_of_wp Tryz.func222 rfl trivial ?_ rfl
 simp only[Tryz.ntmps222,List.size_toArray,List.length_cons,List.length_nil,Nat.reduceAdd,Nat.reduceSub,Array.replicate_succ,Array.replicate_zero,List.push_toArray,List.append_toArray,List.nil_append,List.cons_append]
 gi_wp2_with (refine⟨trivial,rfl,?_⟩;gi_at_call 194;refine(callsIn_wide.2 HALL.out).mono ?_;rintro e w1 ⟨v,rfl,ho1,hb1⟩;refine Stop.of ?_)
 refine Stop.go ?_
 obtain⟨it,cap,rfl,hit,hr1⟩:=zIF ho1 (allI_len k) hk1
 rw[allI_upF]at hr1
 have hJ1:J it [] w1:=HJ.out it _ _ _ hit (H0.out it hit) (Keep.of_below hb1)
 have hkb1:=hb1.block kb hkW
 have hnb1:=hb1.block nb hnW
 have hs1:=hb1.size
 clear ho1 HALL
 by_cases hkn:k<=n
 ·have hhead:=HH.out hkn
  have hit1:=hr1.lt
  have HIT:=hid hit
  clear hit
  gi_wp2
  gi_loopg [] xs.length (fun(g:Nat) wr=>∃(i:Nat) (x:List Int),g=xs.length-i∧xs[i]? =some x∧J it (xs.take i) wr∧zBQ wr it x∧wr.heap[kb]? =W.heap[kb]? ∧wr.heap[nb]? =W.heap[nb]? ∧W.heap.size<=wr.heap.size)
  case atStart=>exact⟨0,upF 0 k,by omega,hhead,by rw[List.take_zero];exact hJ1,hr1,hkb1,hnb1,hs1⟩
  case round=>
   obtain⟨i,x,rfl,hx,hJk,hrk,hfk,hfn,hsz⟩:=hrel
   have hxm:x∈xs:=List.mem_of_getElem? hx
   obtain⟨hxl,hxp,hxb,hxn⟩:=HF.out x hxm
   have hil:i<xs.length:=(List.getElem?_eq_some_iff.1 hx).1
   obtain⟨sp,hrow⟩:=hrk
   have hyk:=HY.out it (xs.take i) x cap sp wr (by rw[zKU hx];exact List.take_prefix _ _) HIT.out (Array.getElem?_eq_some_iff.1 hrow).1 hJk hrow
   rw[hxl,zKU hx]at hyk
   have hw0:wr.cell? ⟨kb,0,none⟩=some (.int .i64 k):=(World.cell?_of_block (a:=⟨kb,0,none⟩) hfk).trans hg0
   have hw1:wr.cell? ⟨nb,0,none⟩=some (.int .i64 n):=(World.cell?_of_block (a:=⟨nb,0,none⟩) hfn).trans hg1
   have hkn':(k:Int)<=(n:Int):=by omega
   have HRK:=hid (show zBQ wr it x from⟨sp,hrow⟩)
   have HFK:=hid hfk
   have HFN:=hid hfn
   have HX:=hid hx
   have HXL:=hid hxl
   have HXP:=hid hxp
   have HXB:=hid hxb
   have HXN:=hid hxn
   clear hrow hJk hfk hfn hx hxm hxl hxp hxb hxn hhead hJ1 hr1 hkb1 hnb1
   obtain⟨fn,tmps,assign,body,hy,hR⟩:=hyk
   gi_wp2
   refine⟨rfl,hR.mono ?_⟩
   clear hR hy
   rintro e W3 (⟨rfl,hJ3,hs3,hk3⟩|⟨rfl,hJx⟩)
   ·have hr3:zBQ W3 it x:=HRK.out.keep (hk3 it (Or.inr rfl))
    have hfk3:W3.heap[kb]? =W.heap[kb]? :=(hk3 kb (Or.inl (Or.inl rfl))).trans HFK.out
    have hfn3:W3.heap[nb]? =W.heap[nb]? :=(hk3 nb (Or.inl (Or.inr rfl))).trans HFN.out
    have hg30:W3.cell? ⟨kb,0,none⟩=some (.int .i64 k):=(World.cell?_of_block (a:=⟨kb,0,none⟩) hfk3).trans hg0
    have hg31:W3.cell? ⟨nb,0,none⟩=some (.int .i64 n):=(World.cell?_of_block (a:=⟨nb,0,none⟩) hfn3).trans hg1
    have HR3:=hid hr3
    have HK3:=hid hfk3
    have HN3:=hid hfn3
    have HJ3:=hid hJ3
    clear hr3 hfk3 hfn3 hJ3 hk3 hw0 hw1 HRK HFK HFN
    gi_wp2
    gi_loopw [5] (fun i5 wi=>∃i0:Int,i5=.int .i64 i0∧ -1<=i0∧i0<k∧zNK n k x (i0+1).toNat∧Below W3.heap.size W3 wi) (fun i5 _=>(intOf i5+1).toNat)
    case atStart=>
     refine⟨k-1,by first|rfl| (congr 1),by omega,by omega,?_,Below.refl _ _⟩
     intro j h1 h2
     omega
    case round=>
     obtain⟨i0,rfl,hi1,hi2,hT,hbi⟩:=hrel
     have hgk:wr.cell? ⟨kb,0,none⟩=some (.int .i64 k):=(hbi.cell (p:=⟨kb,0,none⟩) (by show kb<_;omega)).trans hg30
     have hgn:wr.cell? ⟨nb,0,none⟩=some (.int .i64 n):=(hbi.cell (p:=⟨nb,0,none⟩) (by show nb<_;omega)).trans hg31
     have hri:=HR3.out.keep (hbi.block it HR3.out.lt)
     have HBI:=hid hbi
     clear hbi
     by_cases h0:0<=i0
     ·obtain⟨m,rfl⟩:=Int.eq_ofNat_of_zero_le h0
      have e1:((m:Int)+1).toNat=m+1:=by omega
      rw[e1]at hT
      have hmk:m<k:=by omega
      have hle:=tail_le HXL.out HXP.out HXB.out hmk hT
      have hc:wr.cell? ⟨it,m,none⟩=some (.int .i64 (x[m]?.getD 0)):=hri.cell (by rw[HXL.out];exact hmk)
      have hw1:wrap64 ((n:Int)-k)=(n:Int)-k:=by unfold wrap64;omega
      have hw2:wrap64 ((n:Int)-k+m)=(n:Int)-k+m:=by unfold wrap64;omega
      have hz:=hri.frozen m
      have hlt3:=hri.lt
      have HRI:=hid hri
      clear hri
      have hm0:(0:Int)<=(m:Int):=by omega
      have hm1:(m:Int)<(k:Int):=by omega
      have HT:=hid hT
      by_cases he:x[m]?.getD 0=(n:Int)-k+m
      ·have hst:=tail_step HXL.out hmk hT he
       have hbe:(x[m]?.getD 0==(n:Int)-k+m)=true:=by simpa using he
       have HST:=hid hst
       clear he hst hT hle
       gi_wp2
       gi_quiet (fail)
       gi_wp2
       refine⟨⟨(m:Int)-1,rfl,by omega,by omega,?_,zAJ HBI.out nq⟩,?_⟩
       ·rw[show((m:Int)-1+1).toNat=m by omega];exact HST.out
       ·simp[intOf]
      ·have hbe:(x[m]?.getD 0==(n:Int)-k+m)=false:=by simpa using he
       have hlt:x[m]?.getD 0<(n:Int)-k+m:=by omega
       have HLT:=hid hlt
       clear he hT hle hlt
       gi_wp2
       gi_quiet (fail)
       have HRQ:=hid (show zBQ (wr.drewN nq) it x from HRI.out)
       have HBQ:=hid (zAJ HBI.out nq)
       have hgk2:(wr.drewN nq).cell? ⟨kb,0,none⟩=some (.int .i64 k):=hgk
       have hc2:(wr.drewN nq).cell? ⟨it,m,none⟩=some (.int .i64 (x[m]?.getD 0)):=hc
       have hz2:(wr.drewN nq).frozen? ⟨it,m,none⟩=false:=hz
       have hlt2:it<(wr.drewN nq).heap.size:=hlt3
       clear HRI HBI hgk hgn hc hz hlt3
       generalize wr.drewN nq=w4 at HRQ HBQ hgk2 hc2 hz2 hlt2⊢
       have hv:wrap64 (x[m]?.getD 0+1)=x[m]?.getD 0+1:=by
        have h1:=HLT.out
        have h2:(0:Int)<=x[m]?.getD 0:=HXN.out m
        unfold wrap64;omega
       have HV:=hid hv
       clear hv
       have HKS:=hid (HRQ.out.set m (by rw[HXL.out];exact hmk) (x[m]?.getD 0+1))
       rw[fillS_start (by rw[HXL.out];exact hmk)]at HKS
       have HW9:=hid (show wrap64 ((m:Int)+1)=((m+1:Nat):Int)by unfold wrap64;omega)
       gi_wp2
       gi_loopw [6] (fun v wj=>∃j:Nat,m+1<=j∧j<=k∧v=.int .i64 j∧zBQ wj it (zJD x m j)∧Keep (fun q=>q≠it) w4 wj) (fun v _=>k-(intOf v).toNat)
       case atStart=>exact⟨m+1,Nat.le_refl _,by omega,by rw[show((m:Int)+1)=((m+1:Nat):Int)by omega],by have h:=HKS.out;with_reducible (first| (rw[HV.out];exact h)|exact h),Keep.set _ _ _ _⟩
       case round=>
        obtain⟨j,hj1,hj2,rfl,hrj,hkj⟩:=hrel
        have hgj:wr.cell? ⟨kb,0,none⟩=some (.int .i64 k):=hkj.cell hgk2 (by have:=HIT.out;omega)
        by_cases hjk:j<k
        ·have hlen:=fillS_len (m:=m) (j:=j) (x:=x) (by omega) (show j<=x.length by rw[HXL.out];omega)
         have hget:=fillS_get (x:=x) (show m<j by omega) (by rw[HXL.out];omega)
         have hset:=fillS_set (x:=x) (show m<=j by omega) (by rw[HXL.out];omega)
         have hcj:=hrj.cell (j:=j-1) (by rw[hlen,HXL.out];omega)
         rw[hget]at hcj
         have hzj:=hrj.frozen j
         have hcj2:=hrj.cell (j:=j) (by rw[hlen,HXL.out];exact hjk)
         obtain⟨u,hu⟩:=exq ((zJD x m j)[j]?.getD 0)
         rw[<- hu]at hcj2
         have hltj:=hrj.lt
         have hwj:wrap64 ((j:Int)-1)=((j-1:Nat):Int):=by unfold wrap64;omega
         have hwv:wrap64 (x[m]?.getD 0+((j-m:Nat):Int)+1)=x[m]?.getD 0+((j+1-m:Nat):Int):=by
          have h1:=HLT.out
          have h2:(0:Int)<=x[m]?.getD 0:=HXN.out m
          unfold wrap64;omega
         have HSJ:=hid (hrj.set j (by rw[hlen,HXL.out];exact hjk) (x[m]?.getD 0+((j+1-m:Nat):Int)))
         rw[hset]at HSJ
         have i1:(0:Int)<=((j-1:Nat):Int):=by omega
         have i2:((j-1:Nat):Int)<(k:Int):=by omega
         have i3:(0:Int)<=(j:Int):=by omega
         have i4:(j:Int)<(k:Int):=by omega
         have HKJ:=hid hkj
         obtain⟨y,hy⟩:=exq (x[m]?.getD 0+((j-m:Nat):Int))
         obtain⟨z,hz⟩:=exq (x[m]?.getD 0+((j+1-m:Nat):Int))
         rw[<- hy,<- hz]at hwv
         rw[<- hy]at hcj
         rw[<- hz]at HSJ
         obtain⟨p,hp⟩:=exq (j-1)
         rw[<- hp]at hcj hwj i1 i2
         have hjp:(j:Int)-1=(p:Int):=by omega
         clear hrj hkj hlen hget hset hy hz hp hu
         gi_wp2
         refine⟨⟨j+1,by omega,by omega,?_,HSJ.out,HKJ.out.trans (Keep.set _ _ _ _)⟩,by simp[intOf];omega⟩
         rw[show((j:Int)+1)=((j+1:Nat):Int)by omega]
        ·obtain rfl:j=k:=by omega
         have hnx:=HC.out.at HX.out
         rw[fillS_done HXL.out hkn hmk HT.out HLT.out]at hnx
         have hi1:i+1<xs.length:=(List.getElem?_eq_some_iff.1 hnx).1
         have HNX:=hid hnx
         have HKJ:=hid hkj
         have HRJ:=hid hrj
         clear hnx hkj hrj
         gi_wp2
         gi_roundg (xs.length-(i+1))
         case measure=>omega
         case rel=>
          refine⟨i+1,zJD x m j,rfl,HNX.out,?_,HRJ.out,?_,?_,?_⟩
          ·exact HJ.out it _ W3 _ HIT.out HJ3.out ((Keep.of_below HBQ.out).trans HKJ.out)
          ·exact(HKJ.out.block kb (by have:=HBQ.out.size;omega) (by have:=HIT.out;omega)).trans ((HBQ.out.block kb (by omega)).trans HK3.out)
          ·exact(HKJ.out.block nb (by have:=HBQ.out.size;omega) (by have:=HIT.out;omega)).trans ((HBQ.out.block nb (by omega)).trans HN3.out)
          ·have:=HKJ.out.size;have:=HBQ.out.size;omega
     ·obtain rfl:i0= -1:=by omega
      have hn0:decide ((0:Int)<= -1)=false:=by decide
      have HT:=hid hT
      clear hT
      gi_wp2
      gi_quiet (fail)
      gi_wp2
      refine bodyPost_ret (results_none rfl _ _ _) rfl ?_
      refine⟨⟨_,rfl⟩,.inl ⟨it,HIT.out,?_⟩⟩
      have hnx:=HC.out.at HX.out
      rw[next_none HXL.out hkn (by simpa using HT.out)]at hnx
      rw[<- take_all_at HX.out hnx]
      exact HJ.out it _ W3 _ HIT.out HJ3.out (Keep.of_below (zAJ HBI.out _))
   ·gi_wp2
    refine bodyPost_ret (results_none rfl _ _ _) rfl ?_
    exact⟨⟨_,rfl⟩,.inr ⟨_,List.take_prefix _ _,hJx⟩⟩
 ·have HNIL:=hid (HNL.out hkn)
  have hkb':w1.cell? ⟨kb,0,none⟩=some (.int .i64 k):=(World.cell?_of_block (a:=⟨kb,0,none⟩) hkb1).trans hg0
  have hnb':w1.cell? ⟨nb,0,none⟩=some (.int .i64 n):=(World.cell?_of_block (a:=⟨nb,0,none⟩) hnb1).trans hg1
  have hd:decide ((k:Int)<=(n:Int))=false:=by simp;omega
  have HJ1:=hid hJ1
  have HIT:=hid hit
  clear hJ1 hit hr1
  gi_wp2
  gi_loopw [] (fun wr=>∃q,wr=w1.drewN q) (fun _=>0)
  case atStart=>exact⟨0,rfl⟩
  case round=>
   obtain⟨q,rfl⟩:=hrel
   have hkb2:(w1.drewN q).cell? ⟨kb,0,none⟩=some (.int .i64 k):=hkb'
   have hnb2:(w1.drewN q).cell? ⟨nb,0,none⟩=some (.int .i64 n):=hnb'
   gi_wp2
   go_end0
   refine⟨⟨_,rfl⟩,.inl ⟨it,HIT.out,?_⟩⟩
   rw[HNIL.out]
   exact HJ.out it _ _ _ HIT.out HJ1.out ((Keep.refl _ _).drewN q)
end
section
open Go.RowKit
theorem sets_c(w:World)(n k:Int):
 Calls Tryz.prog 178 #[.int .i64 n,.int .i64 k] w fun e w'=>e=.returned (.func (.func 222) #[] #[.pointer (some ⟨w.heap.size+1,0,none⟩),.pointer (some ⟨w.heap.size,0,none⟩)])∧
  w'=(w.alloc (.cells #[.int .i64 n] 3)).alloc (.cells #[.int .i64 k] 3):=by
 have hmf:∀(fn:Fn) (first cap:Array Value) (w:World),(Instr.makeFunc fn first cap).run Tryz.prog w=.ok (.func fn first cap) w:=fun _ _ _ _=>rfl
 go_enter Tryz.func178,Tryz.ntmps178
 go_wp2
 go_ret
 exact⟨by simp,rfl⟩
end
section
open Go.RowKit
def zKP(b:Nat):Nat->List Deferred->World->Prop
 |_,[],_=>True
 |top,d::ds,w=>∃h,b<=h∧h<top∧d={target:=.collected h,args:=#[]}∧w.heap[h]? =some (.deferred (some []))∧zKP b h ds w
theorem zKP.keep{b:Nat}{S:Nat->Prop}{A B:World}(hk:Keep S A B):∀{top:Nat} {D:List Deferred},(∀k,k<A.heap.size->b<=k->k<top->A.heap[k]? =some (.deferred (some []))->S k)->zKP b top D A->zKP b top D B
 |_,[],_,_=>trivial
 |top,d::ds,hS,h=>by
  obtain⟨k,h1,h2,h3,h4,h5⟩:=h
  have hlt:=(Array.getElem?_eq_some_iff.1 h4).1
  exact⟨k,h1,h2,h3,(hk.block k hlt (hS k hlt h1 h2 h4)).trans h4,zKP.keep hk (fun q hq hb hqk=>hS q hq hb (by omega)) h5⟩
theorem zKP.lt{b:Nat}{A:World}:∀{top:Nat} {D:List Deferred},zKP b top D A->zKP b A.heap.size D A
 |_,[],_=>trivial
 |top,d::ds,⟨k,h1,h2,h3,h4,h5⟩=>⟨k,h1,(Array.getElem?_eq_some_iff.1 h4).1,h3,h4,h5⟩
theorem zKP.below{b k top:Nat}{D:List Deferred}{A:World}(hk:top<=k):∀(o:Obj),zKP b top D A->zKP b top D (A.putObj k o):=fun o h=>by
 induction D generalizing top with
 |nil=>trivial
 |cons d ds ih=>
  obtain⟨q,h1,h2,h3,h4,h5⟩:=h
  exact⟨q,h1,h2,h3,(World.putObj_heap_other (by omega)).trans h4,ih (by omega) h5⟩
end
section
open Go.RowKit
attribute [local go_sem] Oper.semAt_some
theorem zJL.lt{E T:TypeId}{W:World}{base:Nat}{S:Nat->Prop}{v:Value}{ls:List (List Int)}(h:zJL E T W base S v ls):zJL E T W base (fun b=>S b∧b<W.heap.size) v ls:=by
 obtain⟨vs,ho,hg,he⟩:=h
 refine⟨vs,ho,fun k hk=>⟨hg k hk,(ho.lt k hk).2⟩,fun j hj=>?_⟩
 obtain⟨u,hu,a,n,cap,e,hn,hm,hel⟩:=he j hj
 refine⟨u,hu,a,n,cap,e,hn,hm,fun i hi=>?_⟩
 obtain⟨b,off,e,hS,hlt,rest⟩:=hel i hi
 exact⟨b,off,e,⟨hS,hlt⟩,hlt,rest⟩
theorem zJL.mono{E T:TypeId}{W:World}{base:Nat}{S S':Nat->Prop}{v:Value}{ls:List (List Int)}(h:zJL E T W base S v ls)(hs:∀b,S b->S' b):zJL E T W base S' v ls:=by
 obtain⟨vs,ho,hg,he⟩:=h
 refine⟨vs,ho,fun k hk=>hs _ (hg k hk),fun j hj=>?_⟩
 obtain⟨u,hu,a,n,cap,e,hn,hm,hel⟩:=he j hj
 refine⟨u,hu,a,n,cap,e,hn,hm,fun i hi=>?_⟩
 obtain⟨b,off,e,hS,hlt,rest⟩:=hel i hi
 exact⟨b,off,e,hs _ hS,hlt,rest⟩
theorem zKI:∀(m k:Nat) (a:Int),(comb m k a).length<=2 ^ m
 |0,0,a=>Nat.le_refl _
 |m+1,0,a=>Nat.one_le_two_pow
 |0,k+1,a=>by simp[comb]
 |m+1,k+1,a=>by
  simp only[comb,List.length_append,List.length_map]
  have h1:=zKI m k (a+1)
  have h2:=zKI m (k+1) (a+1)
  rw[Nat.pow_succ];omega
theorem ints_row{W:World}{it:Nat}{x:List Int}{sp:List Value}{E:TypeId}(h:W.heap[it]? =some (.cells (x.map (Value.int .i64)++sp).toArray E (0,0))):zAI W (some ⟨it,0,none⟩) x:=by
 intro j hj
 refine⟨it,0,rfl,(Array.getElem?_eq_some_iff.1 h).1,?_⟩
 rw[Nat.zero_add]
 simp[World.cell?,h,List.getElem?_append_left,hj]
def SIt(o Z it b:Nat):Prop:=b≠o∧b≠Z∧b≠Z+1∧b≠Z+2∧b≠Z+3∧b≠it
def CircI(w:World)(q1 q6 q7 base Z it:Nat)(mv:Value)(W:Nat)(D:List Deferred)(L:List (List Int))(Y:World):Prop:=
 ∃v,Boxed Y q1 23 mv∧Boxed Y q6 3 (.int .i64 W)∧Boxed Y q7 22 v∧Below w.heap.size w Y∧Z+2<=Y.heap.size∧zJL 3 24 Y base (SIt q7 Z it) v L∧zKP base Z D Y∧(∃u,Boxed Y Z 3 u)∧∃u,Boxed Y (Z+1) 3 u
theorem CircI.keep{w:World}{q1 q6 q7 base Z it it2:Nat}{mv:Value}{W:Nat}{D:List Deferred}{L:List (List Int)}{A B:World}(h:CircI w q1 q6 q7 base Z it mv W D L A)(hk:Keep (fun k=>k≠Z+2∧k≠Z+2+1∧k≠it2) A B)
 (h1:q1<Z)(h6:q6<Z)(h7:q7<Z)(hw:w.heap.size<=Z)(hi:Z+4<=it2)(e:it=it2):CircI w q1 q6 q7 base Z it mv W D L B:=by
 subst e
 obtain⟨v,y1,y6,y7,yB,yS,yR,yD,⟨u0,z0⟩,u1,z1⟩:=h
 refine⟨v,(hk.block _ y1.lt (by omega)).trans y1,(hk.block _ y6.lt (by omega)).trans y6,(hk.block _ y7.lt (by omega)).trans y7,hk.below yB (by omega) (fun k _=>by omega),Nat.le_trans yS hk.size,
           yR.keep (hk.mono fun k hk=>⟨hk.2.2.2.1,hk.2.2.2.2.1,hk.2.2.2.2.2⟩),yD.keep hk (fun k _ _ hk _=>by omega),⟨u0,(hk.block _ z0.lt (by omega)).trans z0⟩,u1,(hk.block _ z1.lt (by omega)).trans z1⟩
theorem CircI.below{w:World}{q1 q6 q7 base Z it:Nat}{mv:Value}{W:Nat}{D:List Deferred}{L:List (List Int)}{A B:World}(h:CircI w q1 q6 q7 base Z it mv W D L A)(hb:Below A.heap.size A B):CircI w q1 q6 q7 base Z it mv W D L B:=by
 obtain⟨v,y1,y6,y7,yB,yS,yR,yD,⟨u0,z0⟩,u1,z1⟩:=h
 exact⟨v,(hb.block _ y1.lt).trans y1,(hb.block _ y6.lt).trans y6,(hb.block _ y7.lt).trans y7,zAA yB hb,Nat.le_trans yS hb.size,yR.keep (Keep.of_below hb),zKP.keep (Keep.of_below hb:Keep (fun _=>True) A B) (fun _ _ _ _ _=>trivial) yD,⟨u0,(hb.block _ z0.lt).trans z0⟩,u1,(hb.block _ z1.lt).trans z1⟩
end
section
open Go.RowKit
def CircRes(p:List Int×Int)(e:Ending)(w:World):Prop:=∃b k c,e=.returned (.tuple #[.slice b k c,.int .i64 p.2])∧p.1.length=k∧k<=maxLen∧zAI w b p.1
theorem CircRes.nil(z:Int)(w:World):CircRes ([],z) (.returned (.tuple #[.slice none 0 0,.int .i64 z])) w:=⟨none,0,0,rfl,rfl,Nat.zero_le _,fun j hj=>by simp at hj⟩
end
section
open Go.RowKit
def twoM:Mask:=[[1,1,0],[0,1,1]]
theorem two_rows(w:World):zAN (((w.alloc (.cells #[.int .i64 1,.int .i64 1,.int .i64 0] 3)).alloc (.cells #[.int .i64 0,.int .i64 1,.int .i64 1] 3)).alloc (.cells #[.slice (some ⟨w.heap.size,0,none⟩) 3 3,.slice (some ⟨w.heap.size+1,0,none⟩) 3 3] 24)) (some ⟨w.heap.size+2,0,none⟩) twoM:=by
 obtain⟨w1,h1⟩:=exq (w.alloc (.cells #[.int .i64 1,.int .i64 1,.int .i64 0] 3))
 obtain⟨w2,h2⟩:=exq (w1.alloc (.cells #[.int .i64 0,.int .i64 1,.int .i64 1] 3))
 rw[<- h1,<- h2]
 have s1:w1.heap.size=w.heap.size+1:=by rw[h1];simp
 have s2:w2.heap.size=w.heap.size+2:=by rw[h2];simp[s1]
 have i1:zAI w1 (some ⟨w.heap.size,0,none⟩) [1,1,0]:=fun j hj=>⟨w.heap.size,0,rfl,by omega,by
  rw[h1,World.cell?_alloc_at _ _ _ _ (by simp)]
  match j,hj with
  |0,_=>rfl
  |1,_=>rfl
  |2,_=>rfl⟩
 have i2:zAI w2 (some ⟨w1.heap.size,0,none⟩) [0,1,1]:=fun j hj=>⟨w1.heap.size,0,rfl,by omega,by
  rw[h2,World.cell?_alloc_at _ _ _ _ (by simp)]
  match j,hj with
  |0,_=>rfl
  |1,_=>rfl
  |2,_=>rfl⟩
 rw[s1]at i2
 have b2:Below w1.heap.size w1 w2:=by rw[h2];exact(Below.refl _ _).alloc (Nat.le_refl _) _
 obtain⟨o,ho⟩:=exq (Obj.cells #[.slice (some ⟨w.heap.size,0,none⟩) 3 3,.slice (some ⟨w.heap.size+1,0,none⟩) 3 3] 24)
 rw[<- ho]
 have b3:Below w2.heap.size w2 (w2.alloc o):=(Below.refl _ _).alloc (Nat.le_refl _) _
 have hc:∀j,(w2.alloc o).cell? ⟨w.heap.size+2,j,none⟩=#[Value.slice (some ⟨w.heap.size,0,none⟩) 3 3,.slice (some ⟨w.heap.size+1,0,none⟩) 3 3][j]? :=fun j=>by
  rw[ho,World.cell?_alloc_at _ _ _ _ (by rw[s2])]
 intro j hj
 match j,hj with
 |0,_=>exact⟨_,0,some ⟨w.heap.size,0,none⟩,3,3,rfl,by simp[s2],hc 0,rfl,by decide,(i1.below b2).below b3⟩
 |1,_=>exact⟨_,0,some ⟨w.heap.size+1,0,none⟩,3,3,rfl,by simp[s2],hc 1,rfl,by decide,i2.below b3⟩
end
section
open Go.RowKit
def SomeB(e:Ending):Prop:=∃b,e=.returned (.bool b)
theorem rows_one{W:World}{a2:Option Addr}{n2 cap2:Nat}{h:List Int}(hn2:h.length=n2)(hm2:n2<=maxLen)(H2:zAI W a2 h):
 zAN (W.alloc (.cells #[.slice a2 n2 cap2] 24)) (some ⟨W.heap.size,0,none⟩) [h]:=by
 have hb:Below W.heap.size W (W.alloc (.cells #[.slice a2 n2 cap2] 24)):=(Below.refl _ _).alloc (Nat.le_refl _) _
 intro j hj
 match j,hj with
 |0,_=>exact⟨_,0,a2,n2,cap2,rfl,by simp,by rw[World.cell?_alloc_at _ _ _ _ rfl];rfl,hn2,hm2,H2.below hb⟩
end
section
section
open Go.RowKit
theorem chosenT_c(w:World)(a:Option Addr)(n cap:Nat)(M:List (List Int))(hn:M.length=n)(hn6:n<=1000)(H:zAN w a M)(a2:Option Addr)(k2 cap2:Nat)(S:List Int)(hk2:S.length=k2)(hk21:k2<=1000)(H2:zAI w a2 S)
 (hS:∀r∈M,∀j∈S,0<=j∧j<r.length)(g:Nat)(lb:Array Value)(eg:∀args w,(callFunc g args).run Tryz.prog w=.ok (.enter g args) w)(mo:Nat->List Int)(hmo:MoreP Tryz.prog g lb w n mo)(hml:∀i,i<n->(mo i).length<=1000):
 Calls Tryz.prog 220 #[.slice a n cap,.slice a2 k2 cap2,.func (.func g) #[] lb] w fun e w'=>∃v,e=.returned v∧TabS w' w.heap.size v (zFA M S mo)∧Below w.heap.size w w':=by
 have HN:=hid hn
 have HH:=hid H
 have HK2:=hid hk2
 have HH2:=hid H2
 have HS:=hid hS
 have HMO:=hid hmo
 have HML:=hid hml
 have HCT:=hid (fun(k:Nat) (hk:k<M.length)=>zLD (M:=M) (S:=S) (mo:=mo) hk)
 have HCL:=hid (zHZ M S mo)
 obtain⟨C,hC⟩:=exq (zFA M S mo)
 rw[<- hC]at HCT HCL⊢
 clear hn H hk2 H2 hS hmo hml hC
 go_enter Tryz.func220,Tryz.ntmps220
 go_wp2
 go_loopw [7,15] (fun v i wr=>∃k:Nat,k<=n∧i=.int .i64 k∧TabS wr w.heap.size v (C.take k)∧Below w.heap.size w wr) (fun _ i _=>n-(intOf i).toNat)
 case atStart=>exact⟨0,Nat.zero_le _,rfl,TabS.nil _ _,Below.refl _ _⟩
 case round=>
  obtain⟨k,hk,rfl,ho,hbk⟩:=hrel
  obtain⟨wo,hwo⟩:=exq (wr)
  subst hwo
  by_cases hlt:k<n
  ·have hkM:k<M.length:=by rw[HN.out];exact hlt
   obtain⟨b,off,ra,rn,rc,rfl,hbs,hq0,hrn,hrm,hri⟩:=(HH.out.below hbk) k hkM
   have htk:=HCT.out k hkM
   have hsr:=HS.out M[k] (List.getElem_mem hkM)
   obtain⟨r,hr⟩:=exq (M[k])
   rw[<- hr]at htk hsr hrn hri
   have hlen:(C.take k).length=k:=by rw[List.length_take,HCL.out];omega
   have HL:=hid hlen
   have HTK:=hid htk
   have HSR:=hid hsr
   have HRN:=hid hrn
   have HRI:=hid hri
   have HO:=hid ho
   have HBK:=hid hbk
   obtain⟨va,vc,hv⟩:∃va vc,u7=.slice va k vc:=by
    obtain⟨_,ho1,_⟩:=ho
    obtain⟨a',c',e⟩:=zAD ho1
    exact⟨a',c',by rw[e,hlen]⟩
   subst hv
   clear hr htk hsr hrn hri hkM ho hlen
   go_wp2
   go_loopw [10,22] (fun v i wr=>∃t:Nat,t<=k2∧i=.int .i64 t∧wr.ownsRow wo.heap.size 3 1 v t (((S.take t).map (fun j=>vec r j.toNat)).map (Value.int .i64))∧Below wo.heap.size wo wr) (fun _ i _=>k2-(intOf i).toNat)
   case atStart=>exact⟨0,Nat.zero_le _,rfl,World.ownsRow_nil _ _ _ _,Below.refl _ _⟩
   case round=>
    obtain⟨t,ht,rfl,hown,hbt⟩:=hrel
    by_cases hlt2:t<k2
    ·have htS:t<S.length:=by rw[HK2.out];exact hlt2
     obtain⟨b2,off2,rfl,hbs2,hc2⟩:=(HH2.out.below (zAA HBK.out hbt)) t htS
     have hpp:=HSR.out S[t] (List.getElem_mem htS)
     have hg2:S[t]?.getD 0=S[t]:=by rw[List.getElem?_eq_getElem htS];rfl
     rw[hg2]at hc2
     have htk2:(S.take (t+1)).map (fun j=>vec r j.toNat)=(S.take t).map (fun j=>vec r j.toNat)++[vec r (S[t]).toNat]:=by
      rw[List.take_succ_eq_append_getElem htS,List.map_append];rfl
     obtain⟨q,hq⟩:∃q:Nat,S[t]=q:=⟨(S[t]).toNat,by omega⟩
     rw[hq]at hc2 hpp htk2
     rw[show((q:Int)).toNat=q by omega]at htk2
     have hqr:q<r.length:=by omega
     obtain⟨b3,off3,rfl,hbs3,hc3⟩:=(HRI.out.below hbt) q hqr
     have hqn:(q:Int)<(rn:Int):=by have:=HRN.out;omega
     have hq0':(0:Int)<=(q:Int):=by omega
     obtain⟨x,hx⟩:=exq (r[q]?.getD 0)
     have hxv:vec r q=x:=hx.symm
     rw[<- hx]at hc3
     rw[hxv]at htk2
     obtain⟨la,lc,rfl⟩:=zAD hown
     have HTK2:=hid htk2
     have HOW:=hid hown
     have M1:=hid (show t+1<=maxLen by unfold maxLen;omega)
     have M2:=hid (show(t+1)*8<=140737488355328 by omega)
     have M3:=hid (Nat.le_trans hbt.size (zCH wr (.cells #[.int .i64 x] 3)))
     clear hpp hg2 htk2 hq hx hxv hown htS hqr
     go_wp2_with (at_builtin;refine zAQ _ rfl (.tmp 26) (.tmp 31) 24 rfl wo.heap.size 3 (.int .i64 0) 1 8 Tryz.underlying24 zEF rfl Nat.one_pos (.slice la t lc) t _ rfl (HOW.out.alloc _) (some ⟨wr.heap.size,0,none⟩) 1 1 [.int .i64 x] rfl rfl zCD (zBT wr _ _) (zEE _) M1.out M2.out M3.out ?_;refine Stop.of ?_)
     refine Stop.go ?_
     intro a3 c3 w3 own3 g3
     have hB3:Below wo.heap.size wo w3:=(hbt.alloc hbt.size _).grown g3 M3.out (fun k hk=>(HOW.out.lt k hk).1)
     go_wp2
     refine⟨⟨t+1,by omega,by go_num,?_,hB3⟩,by simp[intOf];omega⟩
     rw[HTK2.out]
     simpa using own3
    ·obtain rfl:t=k2:=by omega
     rw[List.take_of_length_le (by rw[HK2.out];exact Nat.le_refl _)]at hown
     obtain⟨la,lc,rfl⟩:=zAD hown
     have HMK:=hid (HMO.out k wr hlt (zAA HBK.out hbt))
     have HOW:=hid hown
     have hml:=HML.out k hlt
     obtain⟨m,hm⟩:=exq (mo k)
     rw[<- hm]at hml HMK HTK
     obtain⟨ml,hmle⟩:=exq (m.length)
     rw[<- hmle]at hml HMK
     have HME:=hid hmle
     clear hown hm hmle
     go_wp2_with (refine HMK.out.mono ?_;rintro e w2 ⟨ma,mc,rfl,hmi,hb2⟩;refine Stop.of ?_)
     refine Stop.go ?_
     have HO2:=hid (zBI HOW.out hb2)
     have HMI:=hid hmi
     have HB2:=hid (zAA hbt hb2)
     have N1:=hid (show t+ml<=maxLen by unfold maxLen;omega)
     have N2:=hid (show(t+ml)*8<=140737488355328 by omega)
     have N3:=hid (show wo.heap.size<=w2.heap.size from HB2.out.size)
     have N4:=hid (show(m.map (Value.int .i64)).length=ml*1 by rw[List.length_map,HME.out];omega)
     have N5:=hid (show ma=none->ml=0 from fun h=>by rw[HME.out];exact ints_none hmi h)
     have N6:=hid (ints_news hmi)
     clear hmi hb2 hbt
     go_wp2_with (at_builtin;refine zAQ _ rfl (.tmp 35) (.tmp 38) 24 rfl wo.heap.size 3 (.int .i64 0) 1 8 Tryz.underlying24 zEF rfl Nat.one_pos (.slice la t lc) t _ rfl HO2.out ma ml mc (m.map (Value.int .i64)) rfl N4.out N5.out N6.out (zLO _) N1.out N2.out N3.out ?_;refine Stop.of ?_)
     refine Stop.go ?_
     intro a3 c3 w3 own3 g3
     have hB3:Below wo.heap.size wo w3:=HB2.out.grown g3 N3.out (fun k hk=>(HO2.out.lt k hk).1)
     rw[<- List.map_map,<- List.map_append]at own3
     obtain⟨X,hX⟩:=exq (S.map (fun j=>vec r j.toNat)++m)
     rw[<- hX]at own3 HTK
     have hXl:X.length=t+ml:=by rw[hX,List.length_append,List.length_map,HK2.out,HME.out]
     have hsr:=rowS_own own3 hXl
     have HXL:=hid hXl
     obtain⟨vs,ho0,he⟩:=HO.out
     have HO0:=hid ho0
     have ho:=ho0
     rw[HL.out]at ho
     have hb2a:Below wo.heap.size wo (w3.alloc (.cells #[.slice a3 (t+ml) c3] 24)):=hB3.alloc hB3.size _
     have M1:=hid (show k+1<=maxLen by unfold maxLen;omega)
     have M2:=hid (show(k+1)*24<=140737488355328 by omega)
     have M3:=hid (Nat.le_trans HBK.out.size hb2a.size)
     have HO2':=hid (zBI ho hb2a)
     have HE:=hid he
     have HSR2:=hid (hsr.below ((Below.refl _ w3).alloc (Nat.le_refl _) (.cells #[.slice a3 (t+ml) c3] 24)))
     have HB2':=hid hb2a
     have HOO:=hid ho
     clear he hsr hb2a ho ho0 own3 hX hXl hml hB3 g3
     go_wp2_with (at_builtin;refine zAQ _ rfl (.tmp 34) (.tmp 40) 22 rfl w.heap.size 24 (.slice none 0 0) 1 24 Tryz.underlying22 zKD rfl Nat.one_pos (.slice va k vc) k vs rfl HO2'.out (some ⟨w3.heap.size,0,none⟩) 1 1 [.slice a3 (t+ml) c3] rfl rfl zCD (zBT w3 _ _) (zCT _ _ _) M1.out M2.out M3.out ?_;refine Stop.of ?_)
     refine Stop.go ?_
     intro a5 c5 w5 own5 g5
     have hsn:TabS w5 w.heap.size (.slice a5 (k+1) c5) (C.take k++[X]):=TabS.snoc HO0.out HE.out HB2'.out HSR2.out g5 (by rw[HL.out];exact own5)
     have hB5:Below w.heap.size w w5:=(HBK.out.trans (HB2'.out.mono HBK.out.size)).grown g5 M3.out (fun q hq=>(HO2'.out.lt q hq).1)
     rw[<- HTK.out]at hsn
     go_wp2
     exact⟨⟨k+1,by omega,by go_num,hsn,hB5⟩,by simp[intOf];omega⟩
  ·obtain rfl:k=n:=by omega
   rw[List.take_of_length_le (by rw[HCL.out,HN.out];exact Nat.le_refl _)]at ho
   go_wp2
   go_ret
   exact⟨_,rfl,ho,hbk⟩
end
section
open Go.RowKit
def ascB(l:List Int):Bool:=decide (∀i,i<l.length-1->l[i]?.getD 0<l[i+1]?.getD 0)
def zDA(W:Nat)(l:List Int):Int:=if ascB l=true then(if l.all (fun p=>inB p 0 ((W:Int)-1))=true then 0 else 5)else 7
def pixE(M:Mask)(l:List Int):Int:=if okM M=true then zDA (zAC M) l else 1
theorem asc_pair{l:List Int}(h:ascB l=true):l.Pairwise (· < ·):=by
 have h1:∀i,i<l.length-1->l[i]?.getD 0<l[i+1]?.getD 0:=of_decide_eq_true h
 have h2:∀d i,i+d+1<l.length->l[i]?.getD 0<l[i+d+1]?.getD 0:=by
  intro d
  induction d with
  |zero=>intro i hi;exact h1 i (by omega)
  |succ d ih=>intro i hi;exact Int.lt_trans (ih i (by omega)) (h1 (i+d+1) (by omega))
 rw[List.pairwise_iff_getElem]
 intro i j hi hj hij
 have:=h2 (j-i-1) i (by omega)
 rw[show i+(j-i-1)+1=j by omega,List.getElem?_eq_getElem hi,List.getElem?_eq_getElem hj]at this
 exact this
theorem pair_asc{l:List Int}(h:l.Pairwise (· < ·)):ascB l=true:=by
 refine decide_eq_true fun i hi=>?_
 rw[List.getElem?_eq_getElem (by omega),List.getElem?_eq_getElem (by omega)]
 exact List.pairwise_iff_getElem.1 h i (i+1) (by omega) (by omega) (by omega)
theorem asc_no{l:List Int}{k:Nat}(hk:k+1<l.length)(h:¬l[k]?.getD 0<l[k+1]?.getD 0):ascB l=false:=decide_eq_false fun h1=>h (h1 k (by omega))
theorem asc_yes{l:List Int}(h:∀i,i+1<l.length->l[i]?.getD 0<l[i+1]?.getD 0):ascB l=true:=decide_eq_true fun i hi=>h i (by omega)
theorem named_ok{W:Nat}{l:List Int}(h:zDA W l=0):zCL W l:=by
 unfold zDA at h
 split at h
 ·rename_i h1
  split at h
  ·rename_i h2
   refine⟨asc_pair h1,fun y hy=>?_⟩
   have:=List.all_eq_true.1 h2 y hy
   unfold inB at this
   simp only[Bool.and_eq_true,decide_eq_true_eq]at this
   omega
  ·omega
 ·omega
theorem named1(w:World)(b:Nat)(m:Int)(hm:0<=m∧m<=1000000000)(hc:w.cell? ⟨b,0,none⟩=some (.int .i64 m))(hb:b<w.heap.size):
 PredI Tryz.prog 248 #[.pointer (some ⟨b,0,none⟩)] w (fun n=>!(inB n 0 (m-1))):=by
 intro x W hW
 have hc':W.cell? ⟨b,0,none⟩=some (.int .i64 m):=(hW.cell (p:=⟨b,0,none⟩) hb).trans hc
 obtain⟨z,hz⟩:=exq (m-1)
 have hw:IntKind.i64.wrap (m-1)=z:=by rw[hz];exact IntWalk.i64_in _ (by omega)
 rw[<- hz]
 obtain⟨B,hB⟩:=exq (inB x 0 z)
 have HP:=hid (zML x 0 z W)
 rw[<- hB]at HP
 simp only[<- hB]
 clear hB hc hz
 show Calls Tryz.prog 248 #[.int .i64 x,.pointer (some ⟨b,0,none⟩)] W _
 go_enter Tryz.func248,Tryz.ntmps248
 go_wp2_with (go_at_call 88;refine HP.out.mono ?_;rintro e w1 ⟨rfl,rfl⟩)
 go_ret
 exact⟨rfl,Below.refl _ _⟩
theorem named_c(w:World)(W:Nat)(hW:W<=1000)(a:Option Addr)(n cap:Nat)(l:List Int)(hn:l.length=n)(hm:n<=maxLen)(H:zAI w a l):
 Calls Tryz.prog 213 #[.int .i64 W,.slice a n cap] w fun e w'=>e=.returned (.int .i64 (zDA W l))∧Below w.heap.size w w':=by
 have HN:=hid hn
 have HH:=hid (fun(X:World) (hX:Below w.heap.size w X)=>H.below hX)
 obtain⟨E,hE⟩:=exq (zDA W l)
 rw[<- hE]
 have HE:=hid hE
 clear hn H hE
 have hm':n<=9223372036854775807:=by unfold maxLen at hm;omega
 go_enter Tryz.func213,Tryz.ntmps213
 obtain⟨w1,hw1⟩:=exq (w.alloc (.cells #[.int .i64 W] 3))
 have hb1:Below w.heap.size w w1:=by rw[hw1];exact(Below.refl _ _).alloc (Nat.le_refl _) _
 have hc1:w1.cell? ⟨w.heap.size,0,none⟩=some (.int .i64 W):=by rw[hw1,World.cell?_alloc_at _ _ _ _ rfl];rfl
 have hs1:w.heap.size<w1.heap.size:=by rw[hw1];simp
 have HB1:=hid hb1
 have HC1:=hid hc1
 have HW1:=hid hw1
 clear hb1 hc1 hw1
 go_wp2
 try rw[<- HW1.out]
 go_loopw [9] (fun i wr=>∃k:Nat,k<=n∧i=.int .i64 k∧wr=w1∧Hid (∀i,i+1<k->l[i]?.getD 0<l[i+1]?.getD 0)) (fun i _=>n-(intOf i).toNat)
 case atStart=>exact⟨0,Nat.zero_le _,rfl,by first|exact HW1.out.symm|rfl,hid (fun i h=>by omega)⟩
 case round=>
  obtain⟨k,hk,rfl,rfl,HNO⟩:=hrel
  by_cases hlt:k<n
  ·have hkl:k<l.length:=by rw[HN.out];exact hlt
   obtain⟨b,off,rfl,hbs,hc⟩:=(HH.out wr HB1.out) k hkl
   rcases Nat.eq_zero_or_pos k with h0|h0
   ·subst h0
    obtain⟨x,hx⟩:=exq (l[0]?.getD 0)
    rw[<- hx,Nat.add_zero]at hc
    clear hx hkl
    go_wp2
    exact⟨⟨1,by omega,by go_num,by first|trivial|rfl,hid (fun i h=>by omega)⟩,by simp[intOf];omega⟩
   ·obtain⟨p,rfl⟩:∃p,k=p+1:=⟨k-1,by omega⟩
    obtain⟨b',off',e',_,hc2⟩:=(HH.out wr HB1.out) p (by omega)
    cases e'
    have hpi:((p+1:Nat):Int)-1=(p:Int):=by omega
    have hpn:(p:Int)<(n:Int):=by omega
    have hpp:(0:Int)<((p+1:Nat):Int):=by omega
    have HNO2:=hid (fun(h:¬l[p]?.getD 0<l[p+1]?.getD 0)=>asc_no (by rw[HN.out];exact hlt) h)
    have HNX:=hid (fun(h:l[p]?.getD 0<l[p+1]?.getD 0)=>(show ∀i,i+1<p+1+1->l[i]?.getD 0<l[i+1]?.getD 0 from fun i hi=>by
     rcases Nat.lt_or_ge i p with h1|h1
     ·exact HNO.out i (by omega)
     ·have:i=p:=by omega
      subst this;exact h))
    obtain⟨x,hx⟩:=exq (l[p+1]?.getD 0)
    obtain⟨y,hy⟩:=exq (l[p]?.getD 0)
    rw[<- hx]at hc HNO2 HNX
    rw[<- hy]at hc2 HNO2 HNX
    clear hx hy hkl
    by_cases hle:x<=y
    ·have HA:=hid (HNO2.out (by omega))
     obtain rfl:E=7:=by rw[HE.out];unfold zDA;rw[HA.out];rfl
     go_wp2
     go_ret
     exact⟨rfl,HB1.out⟩
    ·have HX:=hid (HNX.out (by omega))
     go_wp2
     exact⟨⟨p+1+1,by omega,by go_num,by first|trivial|rfl,HX⟩,by simp[intOf];omega⟩
  ·obtain rfl:n=k:=by omega
   have HA:=hid (asc_yes (l:=l) (fun i hi=>HNO.out i (by rw[<- HN.out];exact hi)))
   have HCF:=hid (zNF wr a n cap l HN.out hm (HH.out wr HB1.out) 248 #[.pointer (some ⟨w.heap.size,0,none⟩)] (fun p=>!(inB p 0 ((W:Int)-1))) (enters_of Tryz.func248 (by kernel_rfl) rfl) (named1 wr w.heap.size W (by omega) HC1.out hs1))
   have hany:l.any (fun p=>!(inB p 0 ((W:Int)-1)))=!(l.all (fun p=>inB p 0 ((W:Int)-1))):=by rw[List.not_all_eq_any_not]
   rw[hany]at HCF
   have hee:=HE.out
   unfold zDA at hee
   rw[if_pos HA.out]at hee
   clear hany HNO
   cases hall:l.all (fun p=>inB p 0 ((W:Int)-1))
   ·rw[hall]at HCF hee
    obtain rfl:E=5:=hee
    clear hall
    go_wp2_with (go_at_call 105;refine HCF.out.mono ?_;rintro e w3 ⟨rfl,hb3⟩)
    go_ret
    exact⟨rfl,zAA HB1.out hb3⟩
   ·rw[hall]at HCF hee
    obtain rfl:E=0:=hee
    clear hall
    go_wp2_with (go_at_call 105;refine HCF.out.mono ?_;rintro e w3 ⟨rfl,hb3⟩)
    go_ret
    exact⟨rfl,zAA HB1.out hb3⟩
theorem pixels_c(w:World)(a a2:Option Addr)(n cap n2 cap2:Nat)(M:Mask)(l:List Int)(hn:M.length=n)(hn2:l.length=n2)(hm:n<=maxLen)(hm2:n2<=maxLen)(H:zAN w a M)(H2:zAI w a2 l):
 Calls Tryz.prog 163 #[.slice a n cap,.slice a2 n2 cap2] w fun e w'=>e=.returned (.int .i64 (pixE M l))∧Below w.heap.size w w':=by
 have HV:=hid (zHY w a n cap M hn hm H)
 cases hok:okM M
 ·rw[hok]at HV
  have he:pixE M l=1:=by unfold pixE;rw[hok];rfl
  rw[he]
  clear hn hn2 H H2 hok he
  go_enter Tryz.func163,Tryz.ntmps163
  go_wp2_with (go_at_call 79;refine HV.out.mono ?_;rintro e w1 ⟨rfl,hb1⟩)
  go_ret
  exact⟨rfl,hb1⟩
 ·rw[hok]at HV
  have he:pixE M l=zDA (zAC M) l:=by unfold pixE;rw[if_pos hok]
  rw[he]
  obtain⟨hM,h1,h6,hc1,hc10⟩:=zDJ hok
  obtain⟨b,off,ra,rc,rfl,hb,hc⟩:=zEA H (by omega)
  have hz:(0:Int)<(n:Int):=by omega
  obtain⟨W,hW⟩:=exq (zAC M)
  rw[<- hW]at hc hc1 hc10⊢
  have HS:=hid (fun(X:World) (hX:Below w.heap.size w X)=>(hX.cell (p:=⟨b,off,none⟩) hb).trans hc)
  have HNM:=hid (fun(X:World) (hX:Below w.heap.size w X)=>named_c X W (by omega) a2 n2 cap2 l hn2 hm2 (H2.below hX))
  obtain⟨E,hE⟩:=exq (zDA W l)
  rw[<- hE]at HNM⊢
  clear hn hn2 H H2 hok he hM hW hE hc hb
  go_enter Tryz.func163,Tryz.ntmps163
  go_wp2_with (go_at_call 79;refine HV.out.mono ?_;rintro e w1 ⟨rfl,hb1⟩;refine Stop.of ?_)
  refine Stop.go ?_
  have hc1':=HS.out w1 hb1
  have HB1:=hid hb1
  clear hb1
  go_wp2_with (go_at_call 213;refine(HNM.out w1 HB1.out).mono ?_;rintro e w2 ⟨rfl,hb2⟩)
  go_ret
  exact⟨rfl,zAA HB1.out hb2⟩
theorem pix_ok{M:Mask}{l:List Int}(h:pixE M l=0):okM M=true∧zCL (zAC M) l:=by
 unfold pixE at h
 split at h
 ·rename_i h1;exact⟨h1,named_ok h⟩
 ·omega
theorem set_le{W:Nat}{l:List Int}(h:zCL W l):l.length<=W:=by
 have h1:(l.map Int.toNat).Pairwise (· < ·):=by
  rw[List.pairwise_map]
  refine h.1.imp_of_mem fun {a b} ha hb hab=>?_
  have:=h.2 a ha
  have:=h.2 b hb
  omega
 have:=zOQ (a:=0) (b:=W) h1 (fun x hx=>by
  obtain⟨y,hy,rfl⟩:=List.mem_map.1 hx
  have:=h.2 y hy
  omega)
 rw[List.length_map]at this
 omega
end
section
open Go.RowKit
theorem zPB(w:World)(a:Option Addr)(n cap:Nat)(l:List Int)(hn:l.length=n)(hm:n<=maxLen)(H:zAI w a l):
 Calls Tryz.prog 173 #[.slice a n cap] w fun e w'=>e=.returned (.bool (ascB l))∧∃k,w'=w.drewN k:=by
 have HN:=hid hn
 have HH:=hid H
 obtain⟨E,hE⟩:=exq (ascB l)
 rw[<- hE]
 have HE:=hid hE
 clear hn H hE
 have hm':n<=9223372036854775807:=by unfold maxLen at hm;omega
 go_enter Tryz.func173,Tryz.ntmps173
 go_wp2
 go_loopw [3] (fun i wr=>∃k:Nat,1<=k∧(k<=n∨k=1)∧i=.int .i64 k∧(∃q,wr=w.drewN q)∧Hid (∀i,i+1<k->l[i]?.getD 0<l[i+1]?.getD 0)) (fun i _=>n-(intOf i).toNat)
 case atStart=>exact⟨1,Nat.le_refl _,.inr rfl,rfl,⟨0,rfl⟩,hid (fun i h=>by omega)⟩
 case round=>
  obtain⟨k,hk1,hk,rfl,⟨q,rfl⟩,HNO⟩:=hrel
  by_cases hlt:k<n
  ·obtain⟨p,rfl⟩:∃p,k=p+1:=⟨k-1,by omega⟩
   obtain⟨b,off,rfl,hbs,hc⟩:=HH.out (p+1) (by rw[HN.out];exact hlt)
   obtain⟨b',off',e',_,hc2⟩:=HH.out p (by rw[HN.out];omega)
   cases e'
   have hpi:((p+1:Nat):Int)-1=(p:Int):=by omega
   have hpn:(p:Int)<(n:Int):=by omega
   have HNO2:=hid (fun(h:¬l[p]?.getD 0<l[p+1]?.getD 0)=>asc_no (by rw[HN.out];exact hlt) h)
   have HNX:=hid (fun(h:l[p]?.getD 0<l[p+1]?.getD 0)=>(show ∀i,i+1<p+1+1->l[i]?.getD 0<l[i+1]?.getD 0 from fun i hi=>by
    rcases Nat.lt_or_ge i p with h1|h1
    ·exact HNO.out i (by omega)
    ·have:i=p:=by omega
     subst this;exact h))
   obtain⟨x,hx⟩:=exq (l[p+1]?.getD 0)
   obtain⟨y,hy⟩:=exq (l[p]?.getD 0)
   rw[<- hx]at hc HNO2 HNX
   rw[<- hy]at hc2 HNO2 HNX
   clear hx hy
   by_cases hle:x<=y
   ·have HA:=hid (HNO2.out (by omega))
    obtain rfl:E=false:=HE.out.trans HA.out
    clear HNO2 HNX
    go_wp2
    go_quiet (fail)
    go_wp2
    go_ret
    exact⟨rfl,_,zJF _ _ _⟩
   ·have HX:=hid (HNX.out (by omega))
    clear HNO2 HNX
    go_wp2
    go_quiet (fail)
    go_wp2
    exact⟨⟨p+1+1,by omega,.inl (by omega),by go_num,⟨_,rfl⟩,HX⟩,by simp[intOf];omega⟩
  ·obtain rfl:E=true:=HE.out.trans (asc_yes fun i hi=>HNO.out i (by have:=HN.out;omega))
   go_wp2
   go_ret
   exact⟨rfl,_,rfl⟩
theorem r3Named_c(w:World)(a a2:Option Addr)(n cap n2 cap2:Nat)(M:Mask)(l:List Int)(hn:M.length=n)(hn2:l.length=n2)(hm2:n2<=maxLen)(H:zAN w a M)(H2:zAI w a2 l)(hok:okM M=true):
 Calls Tryz.prog 115 #[.slice a n cap,.slice a2 n2 cap2] w fun e w'=>e=.returned (.int .i64 (zDA (zAC M) l))∧∃k,w'=w.drewN k:=by
 obtain⟨hM,h1,h6,hc1,hc10⟩:=zDJ hok
 obtain⟨b,off,ra,rc,rfl,hb,hc⟩:=zEA H (by omega)
 have hz:(0:Int)<(n:Int):=by omega
 have HAS:=hid (zPB w a2 n2 cap2 l hn2 hm2 H2)
 obtain⟨W,hW⟩:=exq (zAC M)
 rw[<- hW]at hc hc1 hc10⊢
 have hc0:w.cell? ⟨b,off,none⟩=some (.slice ra W rc):=hc
 obtain⟨E,hE⟩:=exq (zDA W l)
 rw[<- hE]
 have HE:=hid hE
 have HN2:=hid hn2
 have HII:=hid H2
 obtain⟨Wm,hWm⟩:=exq ((W:Int)-1)
 have hwm:IntKind.i64.wrap ((W:Int)-1)=Wm:=by rw[hWm];exact IntWalk.i64_in _ (by omega)
 have HWM:=hid hWm
 have hm':n2<=9223372036854775807:=by unfold maxLen at hm2;omega
 clear hn hn2 H H2 hok hM hW hc hE hWm h1 h6
 go_enter Tryz.func115,Tryz.ntmps115
 cases has:ascB l
 ·rw[has]at HAS
  obtain rfl:E=7:=by rw[HE.out];unfold zDA;rw[has];rfl
  clear has
  go_wp2_with (go_at_call 173;refine HAS.out.mono ?_;rintro e w1 ⟨rfl,k1,rfl⟩)
  go_ret
  exact⟨rfl,k1,rfl⟩
 ·rw[has]at HAS
  have HEE:=hid (show E=if l.all (fun p=>inB p 0 Wm)=true then 0 else 5 by rw[HE.out,HWM.out];unfold zDA;rw[if_pos has])
  clear has
  go_wp2_with (go_at_call 173;refine HAS.out.mono ?_;rintro e w1 ⟨rfl,k1,rfl⟩;refine Stop.of ?_)
  refine Stop.go ?_
  go_wp2
  go_loopw [12] (fun i wr=>∃k:Nat,k<=n2∧i=.int .i64 k∧(∃q,wr=w.drewN q)∧Hid (∀j (hj:j<l.length),j<k->inB l[j] 0 Wm=true)) (fun i _=>n2-(intOf i).toNat)
  case atStart=>exact⟨0,Nat.zero_le _,rfl,⟨k1,rfl⟩,hid (fun j _ h=>by omega)⟩
  case round=>
   obtain⟨k,hk,rfl,⟨q,rfl⟩,HNO⟩:=hrel
   by_cases hlt:k<n2
   ·have hkl:k<l.length:=by rw[HN2.out];exact hlt
    obtain⟨b5,o5,rfl,hbs,hc5⟩:=HII.out k hkl
    have hg:l[k]?.getD 0=l[k]:=by rw[List.getElem?_eq_getElem hkl];rfl
    rw[hg]at hc5
    have HST:=hid (fun(h:inB l[k] 0 Wm=false)=>(zHO (p:=fun n:Int=>inB n 0 Wm) hkl h))
    have HNX:=hid (fun(h:inB l[k] 0 Wm=true)=>(show ∀j (hj:j<l.length),j<k+1->inB l[j] 0 Wm=true from fun j hj hlt=>by
     rcases Nat.lt_or_ge j k with h1|h1
     ·exact HNO.out j hj h1
     ·have:j=k:=by omega
      subst this;exact h))
    obtain⟨x,hx⟩:=exq (l[k])
    rw[<- hx]at hc5 HST HNX
    obtain⟨B,hB⟩:=exq (inB x 0 Wm)
    have HW:=hid (fun(W:World)=>zHE x 0 Wm W)
    rw[<- hB]at HW HST HNX
    clear hg hx hkl hB
    cases B
    ·obtain rfl:E=5:=by rw[HEE.out,HST.out rfl];rfl
     clear HST HNX
     go_wp2_with (go_at_call 174;refine(HW.out _).mono ?_;rintro e w1 ⟨rfl,rfl⟩)
     go_ret
     exact⟨rfl,_,rfl⟩
    ·have HX:=hid (HNX.out rfl)
     clear HST HNX
     go_wp2_with (go_at_call 174;refine(HW.out _).mono ?_;rintro e w1 ⟨rfl,rfl⟩)
     exact⟨⟨k+1,by omega,by go_num,⟨q,rfl⟩,HX⟩,by simp[intOf];omega⟩
   ·obtain rfl:E=0:=by
     rw[HEE.out,zJK (p:=fun n:Int=>inB n 0 Wm) (fun j hj=>HNO.out j hj (by have:=HN2.out;omega))];rfl
    go_wp2
    go_ret
    exact⟨rfl,_,rfl⟩
end
end
section
section
open Go.RowKit
abbrev Rt:=Int×Int
def ratV(r:Rt):Value:=.agg #[.int .i64 r.1,.int .i64 r.2]
def zBC(r:Rt):List Value:=[.int .i64 r.1,.int .i64 r.2]
def zAM(l:List Rt):List Value:=l.flatMap zBC
theorem zGQ(l:List Rt)(f:Rt):zAM (l++[f])=zAM l++zBC f:=by simp[zAM]
theorem zBR(l:List Rt):(zAM l).length=l.length*2:=by
 induction l with
 |nil=>rfl
 |cons f l ih=>show(zBC f++zAM l).length=_;rw[List.length_append,ih];simp[zBC];omega
theorem zEQ(l:List Rt):∀(j i:Nat) (hj:j<l.length),i<2->(zAM l)[j*2+i]? =(zBC l[j])[i]? :=by
 induction l with
 |nil=>intro j i hj;simp at hj
 |cons f l ih=>
  intro j i hj hi
  show(zBC f++zAM l)[j*2+i]? =_
  cases j with
  |zero=>rw[List.getElem?_append_left (by simp[zBC];omega)];simp
  |succ j=>
   rw[List.getElem?_append_right (by simp[zBC];omega)]
   have:=ih j i (by simpa using hj) hi
   rw[show(j+1)*2+i-(zBC f).length=j*2+i by simp[zBC];omega,this]
   simp
def zBE(w:World)(a:Option Addr)(l:List Rt):Prop:=
 ∀j (hj:j<l.length),∃b off,a=some ⟨b,off,none⟩∧b<w.heap.size∧w.cell? ⟨b,off+j*2,none⟩=some (.int .i64 l[j].1)∧w.cell? ⟨b,off+j*2+1,none⟩=some (.int .i64 l[j].2)
theorem zBE.below{w w':World}{a:Option Addr}{l:List Rt}(h:zBE w a l)(hb:Below w.heap.size w w'):zBE w' a l:=by
 intro j hj
 obtain⟨b,off,e,hlt,h0,h1⟩:=h j hj
 exact⟨b,off,e,Nat.lt_of_lt_of_le hlt hb.size,(hb.cell (p:=⟨b,_,none⟩) hlt).trans h0,(hb.cell (p:=⟨b,_,none⟩) hlt).trans h1⟩
def zCR(W:World)(base:Nat)(v:Value)(l:List Rt):Prop:=W.ownsRow base 29 2 v l.length (zAM l)
theorem zCR.nil(W:World)(base:Nat):zCR W base (.slice none 0 0) []:=World.ownsRow_nil _ _ _ _
theorem zCR.below{W W':World}{base:Nat}{v:Value}{l:List Rt}(h:zCR W base v l)(hb:Below W.heap.size W W'):zCR W' base v l:=zBI h hb
theorem zCR.reads{W:World}{base:Nat}{v:Value}{l:List Rt}(h:zCR W base v l):∃a cap,v=.slice a l.length cap∧l.length<=maxLen∧zBE W a l:=by
 rcases h.2 with⟨rfl,h0⟩|⟨g,cap,cur,rfl,hbg,hgg,hnc,hcm,hsz,htk⟩
 ·exact⟨none,0,by rw[h0],by rw[h0];decide,fun j hj=>by omega⟩
 ·refine⟨_,cap,rfl,by omega,fun j hj=>⟨g,0,rfl,(Array.getElem?_eq_some_iff.1 hgg).1,?_⟩⟩
  have hc:∀i,i<l.length*2->W.cell? ⟨g,i,none⟩=(zAM l)[i]? :=fun i hi=>
   World.ownsRow.cellAt (w:=W) (base:=base) (e:=29) (size:=2) (g:=g) (n:=l.length) (cap:=cap) (xs:=zAM l) ⟨h.1,.inr ⟨g,cap,cur,rfl,hbg,hgg,hnc,hcm,hsz,htk⟩⟩ i hi
  refine⟨?_,?_⟩
  ·rw[Nat.zero_add,hc _ (by omega)];exact zEQ l j 0 hj (by omega)
  ·rw[Nat.zero_add,hc _ (by omega)];exact zEQ l j 1 hj (by omega)
theorem zHH:(Tryz.prog.info? 29).map (fun i=>(i.zero,i.size,i.bytes))=some (some (.agg #[.int .i64 0,.int .i64 0]),2,16):=by kernel_rfl
theorem zMF(f:Rt):∀u∈zBC f,u.oneCell'=true:=by
 intro u hu
 simp only[zBC,List.mem_cons,List.not_mem_nil,or_false]at hu
 rcases hu with rfl|rfl<;>rfl
theorem zPA(w:World)(f:Rt)(T:TypeId):∀ad,(some ⟨w.heap.size,0,none⟩:Option Addr)=some ad->∀j u,(zBC f)[j]? =some u->(w.alloc (.cells (zBC f).toArray T)).cell? (ad.add j)=some u:=by
 intro ad e j u hu
 cases e
 rw[Addr.add_lit,World.cell?_alloc_at _ _ _ _ rfl]
 simpa using hu
theorem zFO{x g:Int}(hx: -4611686018427387904<=x∧x<=4611686018427387904): -4611686018427387904<=x.tdiv g∧x.tdiv g<=4611686018427387904:=by
 have h:=Int.natAbs_tdiv x g
 have h2:(x.tdiv g).natAbs<=x.natAbs:=by rw[Int.natAbs_tdiv];exact Nat.div_le_self _ _
 omega
theorem of_c(w:World)(n d:Int)(hn: -4611686018427387904<=n∧n<=4611686018427387904)(hd: -4611686018427387904<=d∧d<=4611686018427387904)(h0:d≠0):
 Calls Tryz.prog 152 #[.int .i64 n,.int .i64 d] w fun e w'=>e=.returned (ratV (ofF n d))∧Below w.heap.size w w':=by
 have HD:=hid (fun(X:World)=>zJG X n d hn hd)
 have hg0:0<Int.gcd n d:=Nat.pos_of_ne_zero (fun h=>h0 (Int.gcd_eq_zero_iff.1 h).2)
 have hgl:Int.gcd n d<=4611686018427387904:=by
  have:=Int.gcd_le_natAbs_right n h0
  omega
 obtain⟨G,hG⟩:∃G:Int,G=((Int.gcd n d:Nat):Int):=⟨_,rfl⟩
 unfold ofF
 simp only[]
 rw[<- hG]at HD⊢
 have hG1:1<=G:=by omega
 have hG2:G<=4611686018427387904:=by omega
 clear hG hg0 hgl
 have b1:=zFO (g:=G) hn
 have b2:=zFO (g:=G) hd
 by_cases hs:d<0
 ·rw[if_pos hs]
  obtain⟨m,hm⟩:∃m:Int,m= -G:=⟨_,rfl⟩
  rw[<- hm]
  have b3:=zFO (g:=m) hn
  have b4:=zFO (g:=m) hd
  have hw1:IntKind.i64.wrap (n.tdiv m)=n.tdiv m:=IntWalk.i64_in _ (by omega)
  have hw2:IntKind.i64.wrap (d.tdiv m)=d.tdiv m:=IntWalk.i64_in _ (by omega)
  have hw00:wrap64 (-G)=m:=by unfold wrap64;omega
  have hne:¬(m=0):=by omega
  clear b1 b2 b3 b4 h0 hm hG1 hG2 hn hd
  go_enter Tryz.func152,Tryz.ntmps152
  go_wp2_with (go_at_call 206;refine(HD.out _).mono ?_;rintro e w1 ⟨rfl,k1,rfl⟩;refine Stop.of ?_)
  refine Stop.go ?_
  have hb1:Below w.heap.size w ((w.alloc (.cells #[.int .i64 0,.int .i64 0] 29)).drewN k1):=zAJ ((Below.refl _ w).alloc (Nat.le_refl _) _) k1
  have hq1:((w.alloc (.cells #[.int .i64 0,.int .i64 0] 29)).drewN k1).heap[w.heap.size]? =some (.cells #[.int .i64 0,.int .i64 0] 29 (0,0)):=World.alloc_heap_new w _
  generalize (w.alloc (.cells #[.int .i64 0,.int .i64 0] 29)).drewN k1=w2 at hb1 hq1⊢
  go_wp2
  go_still_tail 7,(by kernel_rfl)
  change wpList _ _ _ _ _ w2.drew
  have hb2:=hb1.drew
  have hq2:w2.drew.heap[w.heap.size]? =some (.cells #[.int .i64 0,.int .i64 0] 29 (0,0)):=hq1
  generalize w2.drew=w3 at hb2 hq2⊢
  have c0:w3.cell? ⟨w.heap.size,0,none⟩=some (.int .i64 0):=by simp[World.cell?,hq2]
  have c1:w3.cell? ⟨w.heap.size,1,none⟩=some (.int .i64 0):=by simp[World.cell?,hq2]
  have f0:w3.frozen? ⟨w.heap.size,0,none⟩=false:=by simp[World.frozen?,hq2]
  have f1:w3.frozen? ⟨w.heap.size,1,none⟩=false:=by simp[World.frozen?,hq2]
  have hlt3:w.heap.size<w3.heap.size:=(Array.getElem?_eq_some_iff.1 hq2).1
  go_wp2
  simp[bodyPost,results,Tryz.results152,go_sem,c0,c1,f0,f1,hlt3]
  exact⟨rfl,zAG (zAG hb2 (Nat.le_refl _) 0 _) (Nat.le_refl _) 1 _⟩
 ·rw[if_neg hs]
  have hw1:IntKind.i64.wrap (n.tdiv G)=n.tdiv G:=IntWalk.i64_in _ (by omega)
  have hw2:IntKind.i64.wrap (d.tdiv G)=d.tdiv G:=IntWalk.i64_in _ (by omega)
  have hne:¬(G=0):=by omega
  clear b1 b2 h0 hG1 hG2 hn hd
  go_enter Tryz.func152,Tryz.ntmps152
  go_wp2_with (go_at_call 206;refine(HD.out _).mono ?_;rintro e w1 ⟨rfl,k1,rfl⟩;refine Stop.of ?_)
  refine Stop.go ?_
  have hb1:Below w.heap.size w ((w.alloc (.cells #[.int .i64 0,.int .i64 0] 29)).drewN k1):=zAJ ((Below.refl _ w).alloc (Nat.le_refl _) _) k1
  have hq1:((w.alloc (.cells #[.int .i64 0,.int .i64 0] 29)).drewN k1).heap[w.heap.size]? =some (.cells #[.int .i64 0,.int .i64 0] 29 (0,0)):=World.alloc_heap_new w _
  generalize (w.alloc (.cells #[.int .i64 0,.int .i64 0] 29)).drewN k1=w2 at hb1 hq1⊢
  go_wp2
  go_still_tail 7,(by kernel_rfl)
  change wpList _ _ _ _ _ w2.drew
  have hb2:=hb1.drew
  have hq2:w2.drew.heap[w.heap.size]? =some (.cells #[.int .i64 0,.int .i64 0] 29 (0,0)):=hq1
  generalize w2.drew=w3 at hb2 hq2⊢
  have c0:w3.cell? ⟨w.heap.size,0,none⟩=some (.int .i64 0):=by simp[World.cell?,hq2]
  have c1:w3.cell? ⟨w.heap.size,1,none⟩=some (.int .i64 0):=by simp[World.cell?,hq2]
  have f0:w3.frozen? ⟨w.heap.size,0,none⟩=false:=by simp[World.frozen?,hq2]
  have f1:w3.frozen? ⟨w.heap.size,1,none⟩=false:=by simp[World.frozen?,hq2]
  have hlt3:w.heap.size<w3.heap.size:=(Array.getElem?_eq_some_iff.1 hq2).1
  go_wp2
  simp[bodyPost,results,Tryz.results152,go_sem,c0,c1,f0,f1,hlt3]
  exact⟨rfl,zAG (zAG hb2 (Nat.le_refl _) 0 _) (Nat.le_refl _) 1 _⟩
theorem r3ratio_c(w:World)(n d:Int)(hn: -4611686018427387904<=n∧n<=4611686018427387904)(hd: -4611686018427387904<=d∧d<=4611686018427387904)(h0:d≠0):
 Calls Tryz.prog 250 #[.int .i64 n,.int .i64 d] w fun e w'=>e=.returned (ratV (zAR n d))∧Below w.heap.size w w':=by
 have HD:=hid (fun(X:World)=>zHW X n d hn hd)
 have hg0:0<Int.gcd n d:=Nat.pos_of_ne_zero (fun h=>h0 (Int.gcd_eq_zero_iff.1 h).2)
 have hgl:Int.gcd n d<=4611686018427387904:=by
  have:=Int.gcd_le_natAbs_right n h0
  omega
 obtain⟨G,hG⟩:∃G:Int,G=((Int.gcd n d:Nat):Int):=⟨_,rfl⟩
 unfold zAR
 rw[<- hG]at HD⊢
 have hG1:1<=G:=by omega
 have hG2:G<=4611686018427387904:=by omega
 clear hG hg0 hgl
 have b1:=zFO (g:=G) hn
 have b2:=zFO (g:=G) hd
 have hw1:IntKind.i64.wrap (n.tdiv G)=n.tdiv G:=IntWalk.i64_in _ (by omega)
 have hw2:IntKind.i64.wrap (d.tdiv G)=d.tdiv G:=IntWalk.i64_in _ (by omega)
 have hne:¬(G=0):=by omega
 clear b1 b2 h0 hG1 hG2 hn hd
 go_enter Tryz.func250,Tryz.ntmps250
 go_wp2_with (go_at_call 211;refine(HD.out _).mono ?_;rintro e w1 ⟨rfl,k1,rfl⟩;refine Stop.of ?_)
 refine Stop.go ?_
 have hb1:Below w.heap.size w ((w.alloc (.cells #[.int .i64 0,.int .i64 0] 29)).drewN k1):=zAJ ((Below.refl _ w).alloc (Nat.le_refl _) _) k1
 have hq1:((w.alloc (.cells #[.int .i64 0,.int .i64 0] 29)).drewN k1).heap[w.heap.size]? =some (.cells #[.int .i64 0,.int .i64 0] 29 (0,0)):=World.alloc_heap_new w _
 generalize (w.alloc (.cells #[.int .i64 0,.int .i64 0] 29)).drewN k1=w2 at hb1 hq1⊢
 go_wp2
 go_still_tail 7,(by kernel_rfl)
 change wpList _ _ _ _ _ w2.drew
 have hb2:=hb1.drew
 have hq2:w2.drew.heap[w.heap.size]? =some (.cells #[.int .i64 0,.int .i64 0] 29 (0,0)):=hq1
 generalize w2.drew=w3 at hb2 hq2⊢
 have c0:w3.cell? ⟨w.heap.size,0,none⟩=some (.int .i64 0):=by simp[World.cell?,hq2]
 have c1:w3.cell? ⟨w.heap.size,1,none⟩=some (.int .i64 0):=by simp[World.cell?,hq2]
 have f0:w3.frozen? ⟨w.heap.size,0,none⟩=false:=by simp[World.frozen?,hq2]
 have f1:w3.frozen? ⟨w.heap.size,1,none⟩=false:=by simp[World.frozen?,hq2]
 have hlt3:w.heap.size<w3.heap.size:=(Array.getElem?_eq_some_iff.1 hq2).1
 go_wp2
 simp[bodyPost,results,Tryz.results250,go_sem,c0,c1,f0,f1,hlt3]
 exact⟨rfl,zAG (zAG hb2 (Nat.le_refl _) 0 _) (Nat.le_refl _) 1 _⟩
end
section
open Go.RowKit
def zOY(M:Mask)(y:List Int):Int:=if y.length=M.length then(if milB y=true then 0 else 7)else 9
def zAU(M:Mask)(y l:List Int):Int:=if okM M=true then(if y.length=M.length then(if milB y=true then pixE M l else 7)else 9)else 1
theorem zKM(w:World)(a a2 a3:Option Addr)(n cap n2 cap2 n3 cap3:Nat)(M:Mask)(y l:List Int)(hn:M.length=n)(hn2:y.length=n2)(hn3:l.length=n3)(hm:n<=maxLen)(hm2:n2<=maxLen)(hm3:n3<=maxLen)(H:zAN w a M)(H2:zAI w a2 y)(H3:zAI w a3 l):
 Calls Tryz.prog 101 #[.slice a n cap,.slice a2 n2 cap2,.slice a3 n3 cap3] w fun e w'=>e=.returned (.int .i64 (zAU M y l))∧Below w.heap.size w w':=by
 have HV:=hid (zHY w a n cap M hn hm H)
 cases hok:okM M
 ·rw[hok]at HV
  have hp:zAU M y l=1:=by unfold zAU;rw[hok];rfl
  rw[hp]
  clear hn hn2 hn3 H H2 H3 hok hp
  go_enter Tryz.func101,Tryz.ntmps101
  go_wp2_with (go_at_call 79;refine HV.out.mono ?_;rintro e w1 ⟨rfl,hb1⟩)
  go_ret
  exact⟨rfl,hb1⟩
 ·rw[hok]at HV
  by_cases hl:n2=n
  ·subst hl
   have HII:=hid (fun(X:World) (hX:Below w.heap.size w X)=>H2.below hX)
   have HN2:=hid hn2
   have HPX:=hid (fun(X:World) (hX:Below w.heap.size w X)=>pixels_c X a a3 n2 cap n3 cap3 M l hn hn3 hm hm3 (H.below hX) (H3.below hX))
   have hdl:((n2:Int) !=(n2:Int))=false:=by simp
   have hpre:zAU M y l=if milB y=true then pixE M l else 7:=by unfold zAU;rw[if_pos hok,if_pos (by omega)]
   rw[hpre]
   obtain⟨E,hE⟩:=exq (pixE M l)
   rw[<- hE]at HPX⊢
   obtain⟨mz,hmz⟩:=exq (milB y)
   have HMZ:=hid hmz
   rw[<- hmz]
   clear hn H H2 H3 hok hn2 hn3 hpre hE hmz
   cases mz
   all_goals
    simp only[if_true,if_false,Bool.false_eq_true]
    go_enter Tryz.func101,Tryz.ntmps101
    go_wp2_with (go_at_call 79;refine HV.out.mono ?_;rintro e w1 ⟨rfl,hb1⟩;refine Stop.of ?_)
    refine Stop.go ?_
    have HBW1:=hid hb1
    clear hb1 HV
    go_wp2_with (go_at_call 106;refine(beyond_c _ 1000000).mono ?_;rintro e w2 ⟨q,rfl,hq,hqs,hb2⟩;refine Stop.of ?_)
    refine Stop.go ?_
    have HB2:=hid (zAA HBW1.out hb2)
    have HCF:=hid (zNF w2 a2 n2 cap2 y HN2.out hm2 (HII.out w2 HB2.out) 167 #[.pointer (some ⟨q,0,none⟩)] (fun n=>!(inB n (-1000000) 1000000)) (enters_of Tryz.func167 (by kernel_rfl) rfl) (beyond1 w2 q 1000000 (by decide) hq hqs))
    rw[any_mil,<- HMZ.out]at HCF
    clear hq hqs hb2
   ·go_wp2_with (go_at_call 105;refine HCF.out.mono ?_;rintro e w3 ⟨rfl,hb3⟩)
    go_ret
    exact⟨rfl,zAA HB2.out hb3⟩
   ·go_wp2_with (go_at_call 105;refine HCF.out.mono ?_;rintro e w3 ⟨rfl,hb3⟩;refine Stop.of ?_)
    refine Stop.go ?_
    have HB3:=hid (zAA HB2.out hb3)
    clear HCF hb3
    go_wp2_with (go_at_call 163;refine(HPX.out w3 HB3.out).mono ?_;rintro e w4 ⟨rfl,hb4⟩)
    go_ret
    exact⟨rfl,zAA HB3.out hb4⟩
  ·have hdl:((n2:Int) !=(n:Int))=true:=by simp;omega
   have hpre:zAU M y l=9:=by unfold zAU;rw[if_pos hok,if_neg (by omega)]
   rw[hpre]
   clear hn hn2 hn3 H H2 H3 hok hpre hl
   go_enter Tryz.func101,Tryz.ntmps101
   go_wp2_with (go_at_call 79;refine HV.out.mono ?_;rintro e w1 ⟨rfl,hb1⟩)
   go_ret
   exact⟨rfl,hb1⟩
theorem zMJ(w:World)(a:Option Addr)(n cap n2 cap2:Nat)(M:Mask)(l:List Int)(V0:Option Addr)(hn:M.length=n)(hn2:l.length=n2)(hm2:n2<=maxLen)(H:zAI w a l):
 Calls Tryz.prog 134 #[.slice V0 n cap,.slice a n2 cap2] w fun e w'=>e=.returned (.int .i64 (zOY M l))∧w=w':=by
 by_cases hl:n2=n
 ·subst hl
  have he:zOY M l=if milB l=true then 0 else 7:=by unfold zOY;rw[if_pos (by omega)]
  rw[he]
  have HN:=hid hn2
  have HH:=hid H
  obtain⟨E,hE⟩:∃E:Int,E=if milB l=true then 0 else 7:=⟨_,rfl⟩
  rw[<- hE]
  have HE:=hid hE
  have hdl:((n2:Int) !=(n2:Int))=false:=by simp
  clear hn hn2 H he hE
  unfold maxLen at hm2
  go_enter Tryz.func134,Tryz.ntmps134
  go_wp2
  go_loop [14] (fun i=>∃k:Nat,k<=n2∧i=.int .i64 k∧Hid (∀j (hj:j<l.length),j<k->inB l[j] (-1000000) 1000000=true)) (fun i=>n2-(intOf i).toNat)
  case atStart=>exact⟨0,Nat.zero_le _,rfl,hid (fun j _ h=>by omega)⟩
  case round=>
   obtain⟨k,hk,rfl,HNO⟩:=hrel
   by_cases hlt:k<n2
   ·have hkl:k<l.length:=by rw[HN.out];exact hlt
    obtain⟨b,off,rfl,hbs,hc⟩:=HH.out k hkl
    have hg:l[k]?.getD 0=l[k]:=by rw[List.getElem?_eq_getElem hkl];rfl
    rw[hg]at hc
    have HST:=hid (fun(h:inB l[k] (-1000000) 1000000=false)=>(zHO (p:=fun n:Int=>inB n (-1000000) 1000000) hkl h:milB l=false))
    have HNX:=hid (fun(h:inB l[k] (-1000000) 1000000=true)=>(show ∀j (hj:j<l.length),j<k+1->inB l[j] (-1000000) 1000000=true from fun j hj hlt=>by
     rcases Nat.lt_or_ge j k with h1|h1
     ·exact HNO.out j hj h1
     ·have:j=k:=by omega
      subst this;exact h))
    obtain⟨x,hx⟩:=exq (l[k])
    rw[<- hx]at hc HST HNX
    obtain⟨B,hB⟩:=exq (inB x (-1000000) 1000000)
    have HW:=hid (fun(W:World)=>zHE x (-1000000) 1000000 W)
    rw[<- hB]at HW HST HNX
    clear hg hx hkl hB
    cases B
    ·have HX:=hid (HST.out rfl)
     obtain rfl:E=7:=by rw[HE.out,if_neg (by rw[show milB l=false from HX.out];decide)]
     clear HST HNX
     go_wp2_with (go_at_call 174;refine(HW.out _).mono ?_;rintro e w1 ⟨rfl,rfl⟩)
     go_ret
     exact⟨rfl,rfl⟩
    ·have HX:=hid (HNX.out rfl)
     clear HST HNX
     go_wp2_with (go_at_call 174;refine(HW.out _).mono ?_;rintro e w1 ⟨rfl,rfl⟩)
     go_round
     case rel=>exact⟨k+1,by omega,by go_num,HX⟩
     case measure=>simp[intOf];omega
   ·have hall:milB l=true:=zJK (p:=fun n:Int=>inB n (-1000000) 1000000) (fun j hj=>HNO.out j hj (by have:=HN.out;omega))
    obtain rfl:E=0:=by rw[HE.out,if_pos hall]
    go_wp2
    go_ret
    exact⟨rfl,rfl⟩
 ·have he:zOY M l=9:=by unfold zOY;rw[if_neg (by omega)]
  rw[he]
  have hdl:((n2:Int) !=(n:Int))=true:=by simp;omega
  clear hn hn2 H he hl
  go_enter Tryz.func134,Tryz.ntmps134
  go_wp2
  go_ret
  exact⟨rfl,rfl⟩
end
section
open Go.RowKit
theorem solve1(w:World)(b:Nat)(a:Option Addr)(n cap N:Nat)(y:List Int)(hn:y.length=n)(hN:N<=n)(hm:n<=maxLen)(hc:w.cell? ⟨b,0,none⟩=some (.slice a n cap))(hb:b<w.heap.size)(H:zAI w a y):
 MoreP Tryz.prog 265 #[.pointer (some ⟨b,0,none⟩)] w N (fun i=>[y[i]?.getD 0]):=by
 intro i W hi hW
 have hc':W.cell? ⟨b,0,none⟩=some (.slice a n cap):=(hW.cell (p:=⟨b,0,none⟩) hb).trans hc
 obtain⟨b2,o2,rfl,hb2,hc2⟩:=(H.below hW) i (by omega)
 show Calls Tryz.prog 265 #[.int .i64 i,.pointer (some ⟨b,0,none⟩)] W fun e W'=>∃a c,e=.returned (.slice a 1 c)∧zAI W' a [y[i]?.getD 0]∧Below W.heap.size W W'
 obtain⟨x,hx⟩:=exq (y[i]?.getD 0)
 rw[<- hx]at hc2⊢
 have hin:(i:Int)<(n:Int):=by omega
 unfold maxLen at hm
 clear hn H hc hx
 go_enter Tryz.func265,Tryz.ntmps265
 go_wp2
 go_ret
 refine⟨some ⟨W.heap.size,0,none⟩,1,rfl,fun j hj=>⟨W.heap.size,0,rfl,by simp,?_⟩,(Below.refl _ _).alloc (Nat.le_refl _) _⟩
 obtain rfl:j=0:=by simpa using hj
 rw[World.cell?_alloc_at _ _ _ _ rfl];rfl
theorem chosenF_y{M:List (List Int)}{S y:List Int}(h:y.length=M.length):zFA M S (fun i=>[y[i]?.getD 0])=zAK (zAS M S) y:=by
 unfold zFA zAK zAS
 refine List.ext_getElem (by simp[h]) fun i h1 h2=>?_
 have hi:i<M.length:=by simpa using h1
 simp[List.getElem?_eq_getElem (show i<y.length by omega)]
def zCA(M:Mask)(l y:List Int):List Rt×Int:=if zAU M y l=0 then zAY (zAK (zAS M l) y) l.length else([],zAU M y l)
theorem zFG{M:Mask}{y l:List Int}(h:zAU M y l=0):okM M=true∧y.length=M.length∧milB y=true∧zCL (zAC M) l:=by
 unfold zAU at h
 by_cases h1:okM M=true
 ·rw[if_pos h1]at h
  by_cases h2:y.length=M.length
  ·rw[if_pos h2]at h
   by_cases h3:milB y=true
   ·rw[if_pos h3]at h
    exact⟨h1,h2,h3,(pix_ok h).2⟩
   ·rw[if_neg h3]at h;omega
  ·rw[if_neg h2]at h;omega
 ·rw[if_neg h1]at h;omega
theorem zHG{y:List Int}(h:milB y=true):∀v∈y,-((1000000:Nat):Int)<=v∧v<=((1000000:Nat):Int):=by
 intro v hv
 have:=List.all_eq_true.1 h v hv
 unfold inB at this
 simp only[Bool.and_eq_true,decide_eq_true_eq]at this
 omega
def ofTo(R:List (List Int))(J:List Nat)(n k:Nat):List Rt:=(List.range k).map fun i=>ofF (vec (R[i]?.getD []) n) (vec (R[i]?.getD []) (jf J i))
theorem zPF(R:List (List Int))(J:List Nat)(n k:Nat):(ofTo R J n k).length=k:=by simp[ofTo]
theorem ofTo_succ(R:List (List Int))(J:List Nat)(n k:Nat):ofTo R J n (k+1)=ofTo R J n k++[ofF (vec (R[k]?.getD []) n) (vec (R[k]?.getD []) (jf J k))]:=by
 unfold ofTo;rw[List.range_succ,List.map_append];rfl
def SolveSt(wr:World)(base:Nat)(v:Value)(R:List (List Int))(J:List Nat)(n k:Nat):Prop:=zCR wr base v (ofTo R J n (min k J.length))∧∀q,J.length<=q->q<k->vec (R[q]?.getD []) n=0
theorem solve_end{C:List (List Int)}{n:Nat}(hK:(pRed C n).2.length<=n)(h0:∀q,(pRed C n).2.length<=q->q<(pRed C n).1.length->vec ((pRed C n).1[q]?.getD []) n=0):
 zAY C n=if (pRed C n).2.length<n then([],11)else(ofTo (pRed C n).1 (pRed C n).2 n (pRed C n).2.length,0):=by
 unfold zAY
 simp only[]
 have h1:((pRed C n).1.drop (pRed C n).2.length).any (nz n)=false:=by
  rw[Bool.eq_false_iff]
  intro hc
  obtain⟨r,hr,hz⟩:=List.any_eq_true.1 hc
  obtain⟨i,hi,rfl⟩:=List.mem_iff_getElem.1 hr
  rw[List.getElem_drop]at hz
  have:=h0 ((pRed C n).2.length+i) (by omega) (by rw[List.length_drop]at hi;omega)
  rw[List.getElem?_eq_getElem (by rw[List.length_drop]at hi;omega)]at this
  simp only[nz,decide_eq_true_eq]at hz
  exact hz this
 rw[h1]
 simp only[Bool.false_eq_true,if_false]
 by_cases c:(pRed C n).2.length<n
 ·rw[if_pos c,if_pos c]
 ·rw[if_neg c,if_neg c]
  have:(pRed C n).2.length=n:=by omega
  rw[this];rfl
theorem solve_none{C:List (List Int)}{n q:Nat}(h1:(pRed C n).2.length<=q)(h2:q<(pRed C n).1.length)(h3:vec ((pRed C n).1[q]?.getD []) n≠0):zAY C n=([],8):=by
 unfold zAY
 simp only[]
 rw[if_pos]
 refine List.any_eq_true.2 ⟨(pRed C n).1[q],?_,?_⟩
 ·rw[List.mem_drop_iff_getElem];exact⟨q-(pRed C n).2.length,by omega,by congr 1;omega⟩
 ·rw[List.getElem?_eq_getElem h2]at h3
  simpa[nz]using h3
theorem solve_c(w:World)(a a2 a3:Option Addr)(n cap n2 cap2 n3 cap3:Nat)(M:Mask)(l y:List Int)(hn:M.length=n)(hn2:l.length=n2)(hn3:y.length=n3)(hm:n<=maxLen)(hm2:n2<=maxLen)(hm3:n3<=maxLen)(H:zAN w a M)(H2:zAI w a2 l)(H3:zAI w a3 y):
 Calls Tryz.prog 262 #[.slice a n cap,.slice a2 n2 cap2,.slice a3 n3 cap3] w fun e w'=>∃v base,e=.returned (.tuple #[v,.int .i64 (zCA M l y).2])∧w.heap.size<=base∧zCR w' base v (zCA M l y).1∧Below w.heap.size w w':=by
 have hmf:∀(fn:Fn) (first cap:Array Value) (w:World),(Instr.makeFunc fn first cap).run Tryz.prog w=.ok (.func fn first cap) w:=fun _ _ _ _=>rfl
 obtain⟨s,hs⟩:=exq (w.heap.size)
 obtain⟨wf,hwf⟩:=exq (w.alloc (.cells #[.slice a3 n3 cap3] 24))
 have hb0:Below w.heap.size w wf:=by rw[hwf];exact(Below.refl _ _).alloc (Nat.le_refl _) _
 have hcb:wf.cell? ⟨s,0,none⟩=some (.slice a3 n3 cap3):=by rw[hwf,hs,World.cell?_alloc_at _ _ _ _ rfl];rfl
 have hsf:s<wf.heap.size:=by rw[hwf,hs];simp
 have HCK:=hid (zKM wf a a3 a2 n cap n3 cap3 n2 cap2 M y l hn hn3 hn2 hm hm3 hm2 (H.below hb0) (H3.below hb0) (H2.below hb0))
 have HBF:=hid hb0
 by_cases hck:zAU M y l=0
 ·rw[hck]at HCK
  have hv:zCA M l y=zAY (zAK (zAS M l) y) n2:=by unfold zCA;rw[if_pos hck,hn2]
  rw[hv]
  obtain⟨hok,hyl,hmil,hso⟩:=zFG hck
  obtain⟨hM,h1,h6,hc1,hc10⟩:=zDJ hok
  have hl10:=set_le hso
  have hn6:n<=6:=by omega
  have hn1:1<=n:=by omega
  have hn210:n2<=10:=by omega
  have hS:∀r∈M,∀j∈l,0<=j∧j<r.length:=fun r hr j hj=>by rw[hM.wid r hr];exact hso.2 j hj
  have HCh:=hid (fun(X:World) (hX:Below wf.heap.size wf X)=>
   have hX0:=zAA hb0 hX
   chosen_c X a n cap M hn (by omega) (H.below hX0) a2 n2 cap2 l hn2 (by omega) (H2.below hX0) hS 265 #[.pointer (some ⟨s,0,none⟩)] (enters_of Tryz.func265 (by kernel_rfl) rfl) (fun i=>[y[i]?.getD 0])
    (solve1 X s a3 n3 cap3 n y hn3 (by omega) hm3 ((hX.cell (p:=⟨s,0,none⟩) hsf).trans hcb) (Nat.lt_of_lt_of_le hsf hX.size) (H3.below hX0)) (fun i _=>⟨by simp,by simp⟩))
  rw[chosenF_y (by omega)]at HCh
  have hMC:MaskOk (zAS M l) n2:=by rw[<- hn2];exact hM.cols l
  have hY:=hMC.addY (y:=y) (by rw[zBK];omega) (Y:=1000000) (by omega) (zHG hmil)
  have hCl:(zAK (zAS M l) y).length=n:=by rw[zDV (by rw[zBK];omega),zBK,hn]
  obtain⟨C,hC⟩:=exq (zAK (zAS M l) y)
  rw[<- hC]at HCh hY hCl⊢
  have hle:∀t,t<=n2->∀r∈(pRed C t).1,r.length=n2+1∧BndL 1073741824 r:=fun t ht r hr=>by
   have h:=pRed_le hY.wid hY.le6 hY.one hY.all ht r hr
   exact⟨h.1,fun x hx=>by have:=h.2 x hx;omega⟩
  have HRd:=hid (fun(W1:World) (base:Nat) (v0:Value) (hO:OwnT W1 base W1.heap.size v0 C) (hb:base<=W1.heap.size)=>reduce_c W1 base v0 C (n2+1) hO hb hY.wid (by omega) (by omega) (by omega) n2 (by omega) hle)
  have hinv:=zCK C hY.wid n2 (fun j hj q=>zCC (by decide) (fun r hr=>hY.one r hr j hj) q)
  have hRl:(pRed C n2).1.length=n:=by rw[zFC,hCl]
  have hRw:∀r∈(pRed C n2).1,r.length=n2+1:=fun r hr=>(hle n2 (Nat.le_refl _) r hr).1
  have hRb:∀r∈(pRed C n2).1,BndL 1073741824 r:=fun r hr=>(hle n2 (Nat.le_refl _) r hr).2
  have hJn:(pRed C n2).2.length<=n:=by have:=hinv.K_le;omega
  have hJ2:(pRed C n2).2.length<=n2:=by
   have:=zOQ (a:=0) (b:=n2) hinv.asc (fun x hx=>⟨Nat.zero_le _,hinv.lt x hx⟩)
   omega
  have hJlt:∀k,k<(pRed C n2).2.length->jf (pRed C n2).2 k<n2:=fun k hk=>by
   unfold jf;rw[List.getElem?_eq_getElem hk];exact hinv.lt _ (List.getElem_mem hk)
  have hJpos:∀k,k<(pRed C n2).2.length->0<vec ((pRed C n2).1[k]?.getD []) (jf (pRed C n2).2 k):=fun k hk=>(hinv.pp k hk).2
  have HEND:=hid (solve_end (C:=C) (n:=n2) hJ2)
  have HNO:=hid (fun q=>solve_none (C:=C) (n:=n2) (q:=q))
  obtain⟨SV,hSV⟩:=exq (zAY C n2)
  rw[<- hSV]at HEND HNO⊢
  obtain⟨R,hR⟩:=exq ((pRed C n2).1)
  obtain⟨J,hJ⟩:=exq ((pRed C n2).2)
  have e1:(pRed C n2).1=R:=hR.symm
  have e2:(pRed C n2).2=J:=hJ.symm
  rw[e1]at HRd hRl hRw hRb hJpos HEND HNO
  rw[e2]at HRd hJn hJ2 hJlt hJpos HEND HNO
  obtain⟨K,hK⟩:=exq (J.length)
  rw[<- hK]at HRd hJn hJ2 hJlt hJpos HEND HNO
  have HKJ:=hid hK
  have HRL:=hid hRl
  have HRW:=hid hRw
  have HRB:=hid hRb
  have HJLT:=hid hJlt
  have HJPOS:=hid hJpos
  have HSS:=hid hs
  clear e1 e2 hR hJ hK hRl hRw hRb hJlt hJpos hSV hinv hle hC hCl hY hMC hS hso hmil hyl hok hM h1 h6 hc1 hc10 hl10 hck hv hn hn2 hn3 H H2 H3 hb0
  go_enter Tryz.func262,Tryz.ntmps262
  go_wp2_with fail
  rw[<- hwf,<- hs]
  clear hwf hs
  go_wp2_with (go_at_call 101;refine HCK.out.mono ?_;rintro e w1 ⟨rfl,hb1⟩;refine Stop.of ?_)
  refine Stop.go ?_
  go_wp2_with (go_at_call 220;refine(HCh.out w1 hb1).mono ?_;rintro e w2 ⟨v0,rfl,hO2,hb2⟩;refine Stop.of ?_)
  refine Stop.go ?_
  have HRd1:=hid (HRd.out w2 w1.heap.size v0 (OwnT.of hO2) hb2.size)
  clear hO2 HRd HCh
  go_wp2_with (go_at_call 195;refine HRd1.out.mono ?_;rintro e w3 ⟨vJ,rfl,hJo,hT3,hb3⟩;refine Stop.of ?_)
  refine Stop.go ?_
  rw[intsJ_vals]at hJo
  obtain⟨ja,jc,rfl,hJI,hJm⟩:=zCS hJo (by rw[intsJ_len,HKJ.out])
  have hv0:∃g0 c0,v0=.slice (some ⟨g0,0,none⟩) n c0:=by
   obtain⟨g0,c0,_,_,e,_⟩:=hT3.at 0 (by rw[HRL.out];omega)
   exact⟨g0,c0,by rw[e,HRL.out]⟩
  obtain⟨g0,c0,rfl⟩:=hv0
  have hRA:=hT3.rowsAt HRL.out (fun r hr=>by rw[HRW.out r hr];unfold maxLen;omega)
  have HJI:=hid hJI
  have HRA:=hid hRA
  have HBW:=hid (show Below w.heap.size w w3 from zAA HBF.out (hb1.trans ((hb2.trans hb3).mono hb1.size)))
  have hsz:s<=w3.heap.size:=by rw[HSS.out];exact HBW.out.size
  clear hJI hRA hJo hT3 hb1 hb2 hb3 HRd1 HCK HBF hcb hsf
  go_wp2
  go_loopw [12,33] (fun v i wr=>∃k:Nat,k<=n∧i=.int .i64 k∧SolveSt wr w3.heap.size v R J n2 k∧Below w3.heap.size w3 wr) (fun _ i _=>n-(intOf i).toNat)
  case atStart=>exact⟨0,Nat.zero_le _,rfl,⟨by rw[Nat.zero_min];exact zCR.nil _ _,fun q _ h=>by omega⟩,Below.refl _ _⟩
  case round=>
   obtain⟨k,hk,rfl,hst,hbk⟩:=hrel
   by_cases hlt:k<n
   ·obtain⟨b,off,ra,rn,rc,e,hbs,hc,hrn,hrm,hri⟩:=HRA.out k (by rw[HRL.out];exact hlt)
    cases e
    rw[Nat.zero_add]at hc
    have hrw:rn=n2+1:=by rw[<- hrn];exact HRW.out _ (List.getElem_mem _)
    have hcw:wr.cell? ⟨g0,k,none⟩=some (.slice ra rn rc):=(hbk.cell (p:=⟨g0,k,none⟩) hbs).trans hc
    clear hc
    obtain⟨b',off',rfl,hbs',hcx⟩:=hri n2 (by omega)
    have hkR:k<R.length:=by rw[HRL.out];exact hlt
    have hvx:∀c,(R[k])[c]?.getD 0=vec (R[k]?.getD []) c:=fun c=>by rw[List.getElem?_eq_getElem hkR];rfl
    rw[hvx]at hcx
    have hnx:(n2:Int)<(rn:Int):=by omega
    by_cases hkK:k<K
    ·obtain⟨p,hp⟩:=exq (jf J k)
     have hp2:p<n2:=by rw[hp];exact HJLT.out k hkK
     obtain⟨jb,jo,rfl,hjs,hcj⟩:=HJI.out k (by rw[intsJ_len,<- HKJ.out];exact hkK)
     have hjv:(intsJ J)[k]?.getD 0=(p:Int):=by
      have hkl:k<J.length:=by rw[<- HKJ.out];exact hkK
      unfold intsJ;rw[hp];unfold jf;simp[hkl]
     rw[hjv]at hcj
     obtain⟨b2,off2,e2,_,hcz⟩:=hri p (by omega)
     cases e2
     rw[hvx]at hcz
     have hzp:0<vec (R[k]?.getD []) p:=by rw[hp];exact HJPOS.out k hkK
     have hbx:=zED (P:=fun x=> -((1073741824:Nat):Int)<=x∧x<=((1073741824:Nat):Int)) (by omega) (HRB.out _ (List.getElem_mem hkR))
     have hbx1:=hbx n2
     have hbx2:=hbx p
     have hRk:R[k]?.getD []=R[k]:=by rw[List.getElem?_eq_getElem hkR];rfl
     rw[<- hRk]at hbx1 hbx2
     have hsnoc:ofTo R J n2 (k+1)=ofTo R J n2 k++[ofF (vec (R[k]?.getD []) n2) (vec (R[k]?.getD []) p)]:=by rw[hp];exact ofTo_succ R J n2 k
     have HOf:=hid (fun(X:World)=>of_c X (vec (R[k]?.getD []) n2) (vec (R[k]?.getD []) p) (by omega) (by omega) (by omega))
     obtain⟨x,hx⟩:=exq (vec (R[k]?.getD []) n2)
     obtain⟨z,hz⟩:=exq (vec (R[k]?.getD []) p)
     rw[<- hx]at hcx HOf hsnoc
     rw[<- hz]at hcz HOf hsnoc
     obtain⟨Q,hQ⟩:=exq (ofF x z)
     rw[<- hQ]at HOf hsnoc
     obtain⟨q1,q2⟩:=Q
     have HSN:=hid hsnoc
     obtain⟨hst1,hst2⟩:=hst
     rw[<- HKJ.out,show min k K=k by omega]at hst1
     have HST2:=hid (show ∀q,J.length<=q->q<k+1->vec (R[q]?.getD []) n2=0 from fun q h1 h2=>by have:=HKJ.out;omega)
     obtain⟨T,hT⟩:=exq (ofTo R J n2 k)
     rw[<- hT]at hst1 hsnoc
     have hTl:T.length=k:=by rw[hT];exact zPF R J n2 k
     have HO:=hid hst1
     unfold zCR at hst1
     rw[hTl]at hst1
     have HO1:=hid hst1
     obtain⟨va,vc,rfl⟩:=zAD hst1
     have HSN2:=hid (show zAM (ofTo R J n2 (k+1))=zAM T++zBC (q1,q2)by rw[hsnoc,zGQ])
     have HS:=hid (fun(X:World) (hX:Below w3.heap.size w3 X)=>show X.cell? ⟨b',off'+n2,none⟩=some (.int .i64 x)∧X.cell? ⟨jb,jo+k,none⟩=some (.int .i64 p)∧X.cell? ⟨b',off'+p,none⟩=some (.int .i64 z)from
      ⟨(hX.cell (p:=⟨b',off'+n2,none⟩) hbs').trans hcx,(hX.cell (p:=⟨jb,jo+k,none⟩) hjs).trans hcj,(hX.cell (p:=⟨b',off'+p,none⟩) hbs').trans hcz⟩)
     have M1:=hid (show k+1<=maxLen by unfold maxLen;omega)
     have M2:=hid (show(k+1)*16<=140737488355328 by omega)
     have HBK:=hid hbk
     have i1:(k:Int)<(K:Int):=by omega
     have i2:(p:Int)<(rn:Int):=by omega
     clear hst1 hst2 hcx hcj hcz hsnoc hx hz hQ hT hTl hRk hbx hbx1 hbx2 hzp hvx hri hrn hrw hjv hp hbk HO HSN
     simp only[ratV]at HOf
     go_wp2
     refine zAF (fun j' X=>wAll j'=true->X.cell? ⟨b',off'+n2,none⟩=some (.int .i64 x)∧X.cell? ⟨jb,jo+k,none⟩=some (.int .i64 p)∧X.cell? ⟨b',off'+p,none⟩=some (.int .i64 z)) (by kernel_rfl) ?_
     have hbd:Below w3.heap.size w3 wr.drew:=HBK.out.drew
     have HO2:=hid (zBI HO1.out ((Below.refl _ wr).drew))
     have HB3:=hid hbd
     generalize wr.drew=wd at hbd HO2 HB3⊢
     refine AnyT.tD (i:=0) (v:=.slice va k vc) rfl rfl (by rintro w' ⟨y1,y2,y3⟩;go_simp) (HS.out _ hbd) ?_;go_frame
     refine AnyT.tD (i:=1) (v:=.slice (some ⟨b',off',none⟩) rn rc) rfl rfl (by rintro w' ⟨y1,y2,y3⟩;go_simp) (HS.out _ hbd) ?_;go_frame
     refine AnyT.tD (i:=2) (v:=.int .i64 n2) rfl rfl (by rintro w' ⟨y1,y2,y3⟩;go_simp) (HS.out _ hbd) ?_;go_frame
     refine AnyT.tD (i:=3) (v:=.pointer (some ⟨b',off'+n2,none⟩)) rfl rfl (by rintro w' ⟨y1,y2,y3⟩;go_simp) (HS.out _ hbd) ?_;go_frame
     refine AnyT.tD (i:=4) (v:=.int .i64 x) rfl rfl (by rintro w' ⟨y1,y2,y3⟩;go_simp) (HS.out _ hbd) ?_;go_frame
     refine AnyT.tD (i:=5) (v:=.slice (some ⟨b',off',none⟩) rn rc) rfl rfl (by rintro w' ⟨y1,y2,y3⟩;go_simp) (HS.out _ hbd) ?_;go_frame
     refine AnyT.tD (i:=6) (v:=.slice (some ⟨jb,jo,none⟩) K jc) rfl rfl (by rintro w' ⟨y1,y2,y3⟩;go_simp) (HS.out _ hbd) ?_;go_frame
     refine AnyT.tD (i:=7) (v:=.int .i64 k) rfl rfl (by rintro w' ⟨y1,y2,y3⟩;go_simp) (HS.out _ hbd) ?_;go_frame
     refine AnyT.tD (i:=8) (v:=.pointer (some ⟨jb,jo+k,none⟩)) rfl rfl (by rintro w' ⟨y1,y2,y3⟩;go_simp) (HS.out _ hbd) ?_;go_frame
     refine AnyT.tD (i:=9) (v:=.int .i64 p) rfl rfl (by rintro w' ⟨y1,y2,y3⟩;go_simp) (HS.out _ hbd) ?_;go_frame
     refine AnyT.tD (i:=10) (v:=.pointer (some ⟨b',off'+p,none⟩)) rfl rfl (by rintro w' ⟨y1,y2,y3⟩;go_simp) (HS.out _ hbd) ?_;go_frame
     refine AnyT.tD (i:=11) (v:=.int .i64 z) rfl rfl (by rintro w' ⟨y1,y2,y3⟩;go_simp) (HS.out _ hbd) ?_;go_frame
     refine AnyT.nx (i:=12) rfl ?_
     go_wp2_with (go_at_call 152;refine(HOf.out _).mono ?_;rintro e w4 ⟨rfl,hbl4⟩;refine Stop.of ?_)
     refine Stop.go ?_
     have HB4:=hid (zAA hbd hbl4)
     have HO4:=hid (zBI HO2.out hbl4)
     have M3:=hid (Nat.le_trans HB4.out.size (zCH w4 (.cells (zBC (q1,q2)).toArray 29)))
     clear hbd hbl4
     go_wp2
     refine⟨fun _=>HS.out _ HB4.out,?_⟩
     refine AnyT.nx (i:=13) rfl ?_
     go_wp2
     have hbA:Below w3.heap.size w3 (w4.alloc (.cells (zBC (q1,q2)).toArray 29)):=HB4.out.alloc HB4.out.size _
     refine⟨fun _=>HS.out _ hbA,?_⟩
     refine AnyT.nx (i:=14) rfl ?_
     refine zAQ _ rfl (.tmp 43) (.tmp 56) 42 rfl w3.heap.size 29 (.agg #[.int .i64 0,.int .i64 0]) 2 16 Tryz.underlying42 zHH rfl (by decide) (.slice va k vc) k _ rfl (HO4.out.alloc _) (some ⟨w4.heap.size,0,none⟩) 1 1 (zBC (q1,q2)) rfl rfl zCD (zPA w4 (q1,q2) _) (zMF _) M1.out M2.out M3.out ?_
     intro a5 c5 w5 own5 g5
     have hb5:Below w3.heap.size w3 w5:=hbA.grown g5 M3.out (fun q hq=>(HO4.out.lt q hq).1)
     refine⟨fun _=>HS.out _ hb5,?_⟩
     refine AnyT.tD (i:=15) (v:=.slice a5 (k+1) c5) rfl rfl (by rintro w' ⟨y1,y2,y3⟩;go_simp) (HS.out _ hb5) ?_;go_frame
     refine AnyT.done (by kernel_rfl) ?_ _
     go_wp2
     refine⟨⟨k+1,by omega,by go_num,⟨?_,HST2.out⟩,hb5⟩,by simp[intOf];omega⟩
     rw[<- HKJ.out,show min (k+1) K=k+1 by omega]
     unfold zCR
     rw[zPF,HSN2.out]
     exact own5
    ·have HX8:=hid (fun(h:vec (R[k]?.getD []) n2≠0)=>HNO.out k (by omega) (by rw[HRL.out];exact hlt) h)
     have HX0:=hid (fun(h:vec (R[k]?.getD []) n2=0)=>show SolveSt wr w3.heap.size u12 R J n2 (k+1)from⟨by have h1:=hst.1;rw[<- HKJ.out,show min k K=min (k+1) K by omega]at h1;rw[<- HKJ.out];exact h1,fun q h1 h2=>by
      rcases Nat.lt_or_ge q k with h3|h3
      ·exact hst.2 q h1 h3
      ·obtain rfl:q=k:=by omega
       exact h⟩)
     obtain⟨x,hx⟩:=exq (vec (R[k]?.getD []) n2)
     rw[<- hx]at hcx HX8 HX0
     have i1:¬((k:Int)<(K:Int)):=by omega
     have HBK:=hid hbk
     have hcx':wr.cell? ⟨b',off'+n2,none⟩=some (.int .i64 x):=(hbk.cell (p:=⟨b',off'+n2,none⟩) hbs').trans hcx
     clear hx hst hbk hcx hvx hri hrn hrw
     by_cases h0:x=0
     ·subst h0
      have HX:=hid (HX0.out rfl)
      clear HX0 HX8
      go_wp2
      exact⟨⟨k+1,by omega,by go_num,HX.out,HBK.out⟩,by simp[intOf];omega⟩
     ·have hxb:(x !=0)=true:=by simpa using h0
      obtain rfl:SV=([],8):=HX8.out h0
      clear HX0 HX8
      go_wp2
      go_ret2
      exact⟨.slice none 0 0,rfl,w.heap.size,Nat.le_refl _,zCR.nil _ _,zAA HBW.out HBK.out⟩
   ·obtain rfl:k=n:=by omega
    have hSV:SV=if K<n2 then([],11)else(ofTo R J n2 K,0):=HEND.out fun q h1 h2=>hst.2 q (by rw[<- HKJ.out];exact h1) (by rw[HRL.out]at h2;exact h2)
    have hst1:=hst.1
    rw[<- HKJ.out,show min k K=K by omega]at hst1
    have HO:=hid hst1
    have HBK:=hid hbk
    obtain⟨va,vc,hve⟩:=zAD hst1
    rw[zPF]at hve
    subst hve
    clear hst1 hst hbk
    by_cases hKn:K<n2
    ·rw[if_pos hKn]at hSV
     subst hSV
     have i2:(K:Int)<(n2:Int):=by omega
     go_wp2
     go_ret2
     exact⟨.slice none 0 0,rfl,w.heap.size,Nat.le_refl _,zCR.nil _ _,zAA HBW.out HBK.out⟩
    ·rw[if_neg hKn]at hSV
     subst hSV
     have i2:¬((K:Int)<(n2:Int)):=by omega
     go_wp2
     go_ret2
     exact⟨_,rfl,w3.heap.size,HBW.out.size,HO.out,zAA HBW.out HBK.out⟩
 ·have hv:zCA M l y=([],zAU M y l):=by unfold zCA;rw[if_neg hck]
  rw[hv]
  obtain⟨E,hE⟩:=exq (zAU M y l)
  rw[<- hE]at HCK hck⊢
  have hpb:(E !=0)=true:=by simpa using hck
  have HSS:=hid hs
  clear hn hn2 hn3 H H2 H3 hv hE hb0
  go_enter Tryz.func262,Tryz.ntmps262
  go_wp2_with fail
  rw[<- hwf,<- hs]
  clear hwf hs
  go_wp2_with (go_at_call 101;refine HCK.out.mono ?_;rintro e w1 ⟨rfl,hb1⟩)
  go_ret2
  exact⟨.slice none 0 0,w.heap.size,rfl,Nat.le_refl _,zCR.nil _ _,zAA HBF.out hb1⟩
end
end
section
abbrev FitT:=List Int×List Rt
def fitF(M:Mask)(y S:List Int):Option FitT:=if (zCA M S y).2=0∧(zCA M S y).1.all (fun r=>decide (r.1≠0))=true then some (S,(zCA M S y).1)else none
def zBX(M:Mask)(y:List Int)(W t:Nat):List FitT:=(List.range t).flatMap fun j=>(comb W j 0).filterMap (fitF M y)
theorem zCN(M:Mask)(y:List Int)(W t:Nat):zBX M y W (t+1)=zBX M y W t++(comb W t 0).filterMap (fitF M y):=by
 unfold zBX;rw[List.range_succ,List.flatMap_append];simp
def zBM(M:Mask)(y:List Int)(k:Nat):List FitT:=zBX M y (zAC M) (min (min k (zAC M)) M.length+1)
theorem zJC{M:Mask}{y S:List Int}{f:FitT}(h:fitF M y S=some f):f=(S,(zCA M S y).1)∧(zCA M S y).2=0∧∀r∈f.2,r.1≠0:=by
 unfold fitF at h
 split at h
 ·rename_i h1
  cases h
  exact⟨rfl,h1.1,fun r hr=>by simpa using List.all_eq_true.1 h1.2 r hr⟩
 ·cases h
def wholeR(r:Rt):Bool:=decide (r.2=1)&&inB r.1 (-1000000) 1000000
def spreadTo1(W:Nat)(f:FitT)(k:Nat):List Int:=(List.range k).foldl (fun out i=>out.set (f.1[i]?.getD 0).toNat (f.2[i]?.getD (0,0)).1) (List.replicate W 0)
def spreadI(W:Nat)(f:FitT):List Int:=spreadTo1 W f f.1.length
def wholeOne(W:Nat)(f:FitT):Option (List Int):=if f.2.all wholeR=true then some (spreadI W f)else none
def wholeF(M:Mask)(y:List Int)(k:Nat):List (List Int):=(zBM M y k).filterMap (wholeOne (zAC M))
end
end Go.Proofs.YtlffndehhhpgjaaGreat
