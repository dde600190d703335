/- Walks and plain laws for DualCornersRow, part 16. -/
import Derived.Test.YtlffndehhhpgjaaGreatSortL
import Derived.Shelf.SlSortCmp.WholeK
import Derived.Deep.AppendLies
import Derived.Test.YtlffndehhhpgjaaGreatPkDualCornersRow15
namespace Go.Proofs.YtlffndehhhpgjaaGreat
set_option linter.unusedVariables false
set_option linter.unusedSimpArgs false
set_option maxRecDepth 100000
set_option maxHeartbeats 4000000
section
open Go.RowKit
def cmpL:List Int->List Int->Int
 | [],[]=>0
 | [],_::_=> -1
 |_::_,[]=>1
 |x::a,y::b=>if cmpI x y=0 then cmpL a b else cmpI x y
theorem zKJ(x y:Int):(x<y∧cmpI x y= -1)∨(x=y∧cmpI x y=0)∨(y<x∧cmpI x y=1):=by
 unfold cmpI
 rcases Int.lt_trichotomy x y with h|h|h
 ·exact .inl ⟨h,by rw[if_pos h]⟩
 ·subst h;exact .inr (.inl ⟨rfl,by rw[if_neg (by omega),if_pos rfl]⟩)
 ·exact .inr (.inr ⟨h,by rw[if_neg (by omega),if_neg (by omega)]⟩)
theorem cmpL_lt:∀a b,cmpL a b<0↔zBG a b=true
 | [],[]=>by simp[cmpL,zBG]
 | [],_::_=>by simp[cmpL,zBG]
 |_::_,[]=>by simp[cmpL,zBG]
 |x::a,y::b=>by
  have ih:=cmpL_lt a b
  rcases zKJ x y with⟨h,e⟩|⟨h,e⟩|⟨h,e⟩
  ·rw[cmpL,e,if_neg (by decide),zBG,if_neg (by omega)];simp[h]
  ·rw[cmpL,e,if_pos rfl,zBG,if_pos h];exact ih
  ·rw[cmpL,e,if_neg (by decide),zBG,if_neg (by omega)];simp;omega
theorem cmpL_same{l a b:List Int}:cmpL (l++a) (l++b)=cmpL a b:=by
 induction l with
 |nil=>rfl
 |cons x l ih=>
  have e:cmpI x x=0:=by unfold cmpI;rw[if_neg (by omega),if_pos rfl]
  rw[List.cons_append,List.cons_append,cmpL,e,if_pos rfl];exact ih
theorem isNaN_c(w:World)(x:Int):Calls Tryz.prog 246 #[.int .i64 x] w fun e w'=>e=.returned (.bool false)∧w=w':=by
 go_enter Tryz.func246,Tryz.ntmps246
 go_wp2
 go_ret
 exact⟨by simp,rfl⟩
theorem cmpInt_c(w:World)(x y:Int):Calls Tryz.prog 201 #[.int .i64 x,.int .i64 y] w fun e w'=>e=.returned (.int .i64 (cmpI x y))∧w=w':=by
 have H:=hid (fun(X:World) (z:Int)=>isNaN_c X z)
 rcases zKJ x y with⟨h,e⟩|⟨h,e⟩|⟨h,e⟩
 all_goals
  rw[e]
  clear e
  go_enter Tryz.func201,Tryz.ntmps201
 ·go_wp2_with (go_at_call 246;refine(H.out _ _).mono ?_;rintro e w1 ⟨rfl,rfl⟩)
  go_ret
  exact⟨rfl,rfl⟩
 ·subst h
  go_wp2_with (go_at_call 246;refine(H.out _ _).mono ?_;rintro e w1 ⟨rfl,rfl⟩)
  go_ret
  exact⟨rfl,rfl⟩
 ·have h2:¬x<y:=by omega
  go_wp2_with (go_at_call 246;refine(H.out _ _).mono ?_;rintro e w1 ⟨rfl,rfl⟩)
  go_ret
  exact⟨rfl,rfl⟩
theorem slcmp_c(w:World)(a b:Option Addr)(n c n2 c2:Nat)(l m:List Int)(hn:l.length=n)(hn2:m.length=n2)(hm:n<=maxLen)(hm2:n2<=maxLen)(H:zAI w a l)(H2:zAI w b m):
 Calls Tryz.prog 139 #[.slice a n c,.slice b n2 c2] w fun e w'=>e=.returned (.int .i64 (cmpL l m))∧w=w':=by
 have HN:=hid hn
 have HN2:=hid hn2
 have HH:=hid H
 have HH2:=hid H2
 have HC:=hid (fun(X:World) (x y:Int)=>cmpInt_c X x y)
 have HM:=hid (And.intro hm hm2)
 unfold maxLen at hm hm2
 clear hn hn2 H H2
 go_enter Tryz.func139,Tryz.ntmps139
 go_wp2
 go_loopw [11] (fun i wr=>∃k:Nat,k<=n∧i=.int .i64 k∧k<=n2∧Hid (l.take k=m.take k)∧w=wr) (fun i _=>n-(intOf i).toNat)
 case atStart=>exact⟨0,Nat.zero_le _,rfl,Nat.zero_le _,hid rfl,rfl⟩
 case round=>
  obtain⟨k,hk,rfl,hk2,HT,rfl⟩:=hrel
  have hsplit:cmpL l m=cmpL (l.drop k) (m.drop k):=by
   conv=>lhs;rw[<- List.take_append_drop k l,<- List.take_append_drop k m,HT.out]
   exact cmpL_same
  by_cases hlt:k<n
  ·obtain⟨b1,o1,rfl,hb1,hc1⟩:=HH.out k (by rw[HN.out];exact hlt)
   have hkl:k<l.length:=by rw[HN.out];exact hlt
   have i0:(k:Int)<(n:Int):=by omega
   have i00:(0:Int)<=(k:Int):=by omega
   by_cases hlt2:k<n2
   ·have hkm:k<m.length:=by rw[HN2.out];exact hlt2
    obtain⟨b2,o2,rfl,hb2,hc2⟩:=HH2.out k hkm
    rw[List.drop_eq_getElem_cons hkl,List.drop_eq_getElem_cons hkm,cmpL]at hsplit
    have ex:l[k]?.getD 0=l[k]:=by rw[List.getElem?_eq_getElem hkl];rfl
    have ey:m[k]?.getD 0=m[k]:=by rw[List.getElem?_eq_getElem hkm];rfl
    have HTK:=hid (fun(h:l[k]=m[k])=>show l.take (k+1)=m.take (k+1)by rw[List.take_succ_eq_append_getElem hkl,List.take_succ_eq_append_getElem hkm,HT.out,h])
    rw[ex]at hc1
    rw[ey]at hc2
    obtain⟨x,hx⟩:=exq (l[k])
    obtain⟨y,hy⟩:=exq (m[k])
    rw[<- hx]at hc1 hsplit HTK
    rw[<- hy]at hc2 hsplit HTK
    have i1:(k:Int)<(n2:Int):=by omega
    have HSP:=hid hsplit
    have HCX:=hid (fun(X:World)=>HC.out X x y)
    have hcs:=zKJ x y
    obtain⟨z,hz⟩:=exq (cmpI x y)
    rw[<- hz]at hcs HCX
    have HZ:=hid hz
    have HCS:=hid hcs
    clear hsplit hx hy hz hcs ex ey hkl hkm
    by_cases hz0:z=0
    ·have hxy:x=y:=by rcases HCS.out with⟨_,e⟩|⟨h,_⟩|⟨_,e⟩<;>first|exact h|omega
     subst hz0
     have HTK2:=hid (HTK.out hxy)
     clear hxy
     go_wp2_with (go_at_call 201;refine(HCX.out _).mono ?_;rintro e w1 ⟨rfl,rfl⟩;refine Stop.of ?_)
     refine Stop.go ?_
     go_wp2
     refine⟨⟨k+1,by omega,by go_num,by omega,HTK2,trivial⟩,by simp[intOf];omega⟩
    ·have hzb:(z !=0)=true:=by simpa using hz0
     have HR:=hid (show cmpL l m=z by rw[HSP.out,<- HZ.out,if_neg hz0])
     clear hz0
     go_wp2_with (go_at_call 201;refine(HCX.out _).mono ?_;rintro e w1 ⟨rfl,rfl⟩;refine Stop.of ?_)
     refine Stop.go ?_
     go_wp2
     go_ret
     exact⟨by rw[HR.out];rfl,rfl⟩
   ·have i1:(n2:Int)<=(k:Int):=by omega
    have HR:=hid (show cmpL l m=1 by
     have e2:m.drop k=[]:=List.drop_eq_nil_of_le (by rw[HN2.out];omega)
     rw[hsplit,List.drop_eq_getElem_cons hkl,e2];rfl)
    clear hsplit hkl
    go_wp2
    go_ret
    exact⟨by rw[HR.out];rfl,rfl⟩
  ·obtain rfl:k=n:=by omega
   have hd:l.drop k=[]:=List.drop_eq_nil_of_le (by rw[HN.out];exact Nat.le_refl _)
   rw[hd]at hsplit
   by_cases hlt2:k<n2
   ·have HR:=hid (show cmpL l m= -1 by
     rw[hsplit,List.drop_eq_getElem_cons (by rw[HN2.out];exact hlt2)];rfl)
    have i1:(k:Int)<(n2:Int):=by omega
    clear hsplit hd
    go_wp2
    go_ret
    exact⟨by rw[HR.out];rfl,rfl⟩
   ·have HR:=hid (show cmpL l m=0 by
     rw[hsplit,List.drop_eq_nil_of_le (by rw[HN2.out];omega)];rfl)
    have i1:¬(k:Int)<(n2:Int):=by omega
    clear hsplit hd
    go_wp2
    go_ret
    exact⟨by rw[HR.out];rfl,rfl⟩
theorem grow2(w:World)(o1 o2:Obj):(w.alloc o1).alloc o2=Go.Sort.grow w #[o1,o2]:=by
 rw[Go.Sort.alloc_eq_grow,Go.Sort.alloc_eq_grow,Go.Sort.grow_grow];rfl
theorem asked1_c(w:World)(a b:Option Addr)(n c n2 c2:Nat)(u v:Value)(l m:List Int)(hn:l.length=n)(hn2:m.length=n2)(hm:n<=maxLen)(hm2:n2<=maxLen)(H:zAI w a l)(H2:zAI w b m)(hu:∃ra rn rc,u=.slice ra rn rc)(hv:∃ra rn rc,v=.slice ra rn rc):
 Calls Tryz.prog 138 #[.agg #[.slice a n c,u],.agg #[.slice b n2 c2,v]] w fun e w'=>e=.returned (.int .i64 (cmpL l m))∧w'=Go.Sort.grow w #[.cells #[.slice a n c,u] 73,.cells #[.slice b n2 c2,v] 73]:=by
 obtain⟨ua,un,uc,rfl⟩:=hu
 obtain⟨va,vn,vc,rfl⟩:=hv
 have hb:Below w.heap.size w ((w.alloc (.cells #[.slice a n c,.slice ua un uc] 73)).alloc (.cells #[.slice b n2 c2,.slice va vn vc] 73)):=((Below.refl _ _).alloc (Nat.le_refl _) _).alloc (by simp) _
 have HC:=hid (slcmp_c _ a b n c n2 c2 l m hn hn2 hm hm2 (H.below hb) (H2.below hb))
 have HG:=hid (grow2 w (.cells #[.slice a n c,.slice ua un uc] 73) (.cells #[.slice b n2 c2,.slice va vn vc] 73))
 clear hn hn2 hm hm2 H H2 hb
 go_enter Tryz.func138,Tryz.ntmps138
 go_wp2_with (go_at_call 139;refine HC.out.mono ?_;rintro e w1 ⟨rfl,hw1⟩)
 go_ret
 exact⟨rfl,hw1.symm.trans HG.out⟩
theorem sort_keep{α:Type}[Inhabited α](enc:α->List Value)(w:World)(g m:Nat)(dk:Array α)(os:Array Obj):Keep (fun k=>k≠g) w (Go.Proofs.sortWorldK enc 2 w g 0 m dk os):=by
 have hz:=Go.Proofs.size_sortWorldK_c enc 2 w g 0 m dk os
 refine⟨rfl,rfl,rfl,hz,fun k hk hne=>?_⟩
 unfold Go.Proofs.sortWorldK Go.Sort.putRowK Go.Sort.putRow Go.Sort.grow Go.Sort.mapBlock
 show((w.heap.modify g _)++os)[k]? =_
 rw[Array.getElem?_append_left (by simpa using hk),Array.getElem?_modify]
 rw[if_neg (fun e=>hne e.symm)]
theorem swoC{α:Type}(key:α->List Int):Go.Sort.SWO (Go.Proofs.ltOf fun x y:α=>cmpL (key x) (key y)):=by
 have e:∀x y,Go.Proofs.ltOf (fun x y:α=>cmpL (key x) (key y)) x y=zBG (key x) (key y):=fun x y=>by
  unfold Go.Proofs.ltOf
  rw[Bool.eq_iff_iff,decide_eq_true_iff]
  exact cmpL_lt _ _
 refine⟨fun x=>by rw[e];exact zNE _,fun x y z h1 h2=>?_,fun x y z h1 h2=>?_⟩
 ·rw[e]at*;exact zEK h1 h2
 ·rw[e]at*
  rcases zEX (key x) (key y)with h|h|h
  ·rw[h];exact h2
  ·rw[h1]at h;cases h
  ·rcases zEX (key y) (key z)with k|k|k
   ·rw[<- k];exact h1
   ·rw[h2]at k;cases k
   ·have:=zEK k h
    cases hc:zBG (key x) (key z)with
    |false=>rfl
    |true=>rw[zGX hc]at this;cases this
theorem sortFits_c(w:World)(g cap base:Nat)(S:Nat->Prop)(T:List FitT)(hne:T≠[])(h:zCP w base S (.slice (some ⟨g,0,none⟩) T.length cap) T)(hnd:(T.map (·.1)).Nodup)(hlen:T.length<=100000):
 Calls Tryz.prog 137 #[.slice (some ⟨g,0,none⟩) T.length cap,.func (.func 138) #[] #[]] w fun e w'=>e=.returned (.tuple #[])∧Keep (fun k=>k≠g) w w'∧∀W',Keep (fun k=>k=g∨S k) w' W'->zJM W' (some ⟨g,0,none⟩) (zIG T):=by
 have hpos:0<T.length:=List.length_pos_iff.2 hne
 obtain⟨xs,ho,hgS,he⟩:=h
 obtain⟨n,hn⟩:=exq (T.length)
 haveI:Inhabited (Fin T.length):=⟨⟨0,hpos⟩⟩
 obtain⟨cur,hgg⟩:∃cur,w.heap[g]? =some (.cells cur 73 (0,0)):=by
  rcases ho.2 with⟨e,_⟩|⟨g',cap',cur,e,hb,hgg,_⟩
  ·cases e
  ·cases e;exact⟨cur,hgg⟩
 have hglt:=(Array.getElem?_eq_some_iff.1 hgg).1
 have hxl:xs.length=T.length*2:=ho.1
 have hcell:∀i,i<T.length*2->w.cell? ⟨g,i,none⟩=xs[i]? :=fun i hi=>World.ownsRow.cellAt (w:=w) (base:=base) (e:=73) (size:=2) (g:=g) (n:=T.length) (cap:=cap) (xs:=xs) ho i hi
 have hfz:∀i,w.frozen? ⟨g,i,none⟩=false:=fun i=>by simp[World.frozen?,hgg]
 obtain⟨enc,henc⟩:∃enc:Fin T.length->List Value,enc=fun i=>[xs[i.val*2]?.getD undef,xs[i.val*2+1]?.getD undef]:=⟨_,rfl⟩
 obtain⟨d,hd⟩:∃d:Array (Fin T.length),d=Array.ofFn id:=⟨_,rfl⟩
 have hdz:d.size=T.length:=by rw[hd];simp
 have hdi:∀j (hj:j<T.length),d[j]! =⟨j,hj⟩:=fun j hj=>by
  rw[getElem!_pos d j (by rw[hdz];exact hj)]
  subst hd;simp
 have hfe:∀x,(enc x).length=2:=fun x=>by rw[henc];rfl
 have hfu:∀x:Fin T.length,∃us ur,enc x=[us,ur]∧xs[x.val*2]? =some us∧xs[x.val*2+1]? =some ur∧FitC w S us ur T[x.val]:=fun x=>by
  obtain⟨us,ur,h1,h2,h3⟩:=he x.val x.isLt
  exact⟨us,ur,by rw[henc];simp only[h1,h2,Option.getD_some],h1,h2,h3⟩
 have hone:∀x,∀v∈enc x,v.oneCell'=true:=fun x v hv=>by
  obtain⟨us,ur,e,_,_,pa,pn,pc,va,vn,vc,rfl,rfl,_⟩:=hfu x
  rw[e]at hv
  simp at hv
  rcases hv with rfl|rfl<;>rfl
 have hH:Go.Sort.HoldsK enc 2 w g 0 d:=by
  intro j hj
  rw[Go.Sort.size_flatK,hdz]at hj
  have hj2:j/2<T.length:=by omega
  refine⟨?_,hfz _⟩
  rw[Go.Sort.get_flatK enc 2 d j (by rw[hdz];exact hj),hdi _ hj2,Nat.zero_add,hcell j hj]
  obtain⟨us,ur,e,h1,h2,_⟩:=hfu ⟨j/2,hj2⟩
  rw[e]
  rcases Nat.mod_two_eq_zero_or_one j with hm|hm
  ·rw[hm]
   have:j=j/2*2:=by omega
   conv=>lhs;rw[this]
   exact h1
  ·rw[hm]
   have:j=j/2*2+1:=by omega
   conv=>lhs;rw[this]
   exact h2
 have hCK:∀(W:World),Keep (fun k=>k≠g∧S k) w W->∀x:Fin T.length,∃pa pn pc va vn vc,enc x=[.slice pa pn pc,.slice va vn vc]∧(T[x.val]).1.length=pn∧(T[x.val]).2.length=vn∧pn<=maxLen∧vn<=maxLen∧zAI W pa (T[x.val]).1∧zBE W va (T[x.val]).2:=fun W hW x=>by
  obtain⟨us,ur,e,_,_,h3⟩:=hfu x
  have h4:FitC W S us ur T[x.val]:=h3.keep hW fun b hb hlt ⟨c,E,z,hE,hh⟩=>⟨⟨by
   rintro rfl
   rw[hgg]at hh
   cases hh
   rcases hE with h|h
   ·exact absurd h (by decide)
   ·exact absurd h (by decide),hb⟩,hb⟩
  obtain⟨pa,pn,pc,va,vn,vc,rfl,rfl,k1,k2,k3,k4,k5,k6,_⟩:=h4
  exact⟨pa,pn,pc,va,vn,vc,e,k1,k2,k3,k4,k5,k6⟩
 have hcmp:Go.Proofs.CmpLays Tryz.prog 138 #[] enc 2 (fun x y=>cmpL (T[x.val]).1 (T[y.val]).1) g 0 d.size w:=by
  intro m os dk hdk x y
  have hK:=sort_keep enc w g m dk os
  obtain⟨pa,pn,pc,va,vn,vc,e1,k1,k2,k3,k4,k5,k6⟩:=hCK _ (hK.mono fun k h=>h.1) x
  obtain⟨qa,qn,qc,ua,un,uc,e2,l1,l2,l3,l4,l5,l6⟩:=hCK _ (hK.mono fun k h=>h.1) y
  rw[e1,e2]
  refine(asked1_c _ pa qa pn pc qn qc (.slice va vn vc) (.slice ua un uc) _ _ k1 l1 k3 l3 k5 l5 ⟨_,_,_,rfl⟩ ⟨_,_,_,rfl⟩).mono ?_
  rintro e w' ⟨rfl,hw⟩
  exact⟨rfl,0,_,hw⟩
 have hcon:=Go.Proofs.AnyQ.slices_SortFunc Tryz.sortFit 2 Tryz.isAgg73 Tryz.sizeOf73 enc hfe hone (fun x y=>cmpL (T[x.val]).1 (T[y.val]).1) (swoC (fun x:Fin T.length=>(T[x.val]).1)) 138 #[] g 0 cap d w (enters_of Tryz.func138 (by kernel_rfl) rfl) hcmp hH hglt (by rw[hdz];omega)
 rw[hdz]at hcon
 refine hcon.mono ?_
 rintro e w' ⟨rfl,d',m,os,hp,hs,rfl⟩
 have hK:=sort_keep enc w g m d' os
 refine⟨rfl,hK,?_⟩
 obtain⟨p1,_,p3⟩:=hp
 have hd'z:d'.size=T.length:=p1.trans hdz
 have ee:∀(q:Array (Fin T.length)) (k:Nat),k=q.size->q.extract 0 k=q:=by rintro q k rfl;simp
 have e1:=ee d' T.length hd'z.symm
 have e2:=ee d T.length hdz.symm
 rw[e1,e2]at p3
 have hdl0:∀q:Array (Fin T.length),q=Array.ofFn id->q.toList.map (fun i=>T[i.val])=T:=by
  rintro q rfl
  refine List.ext_getElem (by simp) fun i h1 h2=>?_
  simp
 have hdl:=hdl0 d hd
 have hperm:(d'.toList.map (fun i=>T[i.val])).Perm T:=by
  have:=p3.map (fun i:Fin T.length=>T[i.val])
  rwa [hdl]at this
 have hnd':d'.toList.Nodup:=by
  rw[p3.nodup_iff,hd]
  rw[List.nodup_iff_pairwise_ne,List.pairwise_iff_getElem]
  intro i j hi hj hij
  simp
  omega
 have hasc:AscF (d'.toList.map (fun i=>T[i.val])):=by
  unfold AscF
  rw[List.pairwise_iff_getElem]
  intro i j hi hj hij
  simp only[List.length_map,Array.length_toList]at hi hj
  have hij':=hs i j (Nat.zero_le _) hij (by omega)
  rw[getElem!_pos d' i hi,getElem!_pos d' j hj]at hij'
  have hlt:zBG (T[(d'[j]).val]).1 (T[(d'[i]).val]).1=false:=by
   cases hc:zBG (T[(d'[j]).val]).1 (T[(d'[i]).val]).1 with
   |false=>rfl
   |true=>
    have:=(cmpL_lt _ _).2 hc
    unfold Go.Proofs.ltOf at hij'
    rw[decide_eq_false_iff_not]at hij'
    exact absurd this hij'
  simp only[List.getElem_map,Array.getElem_toList]
  rcases zEX (T[(d'[i]).val]).1 (T[(d'[j]).val]).1 with h|h|h
  ·exfalso
   have hne2:(d'[i]).val≠(d'[j]).val:=fun e=>by
    rw[List.nodup_iff_pairwise_ne,List.pairwise_iff_getElem]at hnd'
    exact hnd' i j (by simpa using hi) (by simpa using hj) hij (by simpa using Fin.ext e)
   rw[List.nodup_iff_pairwise_ne,List.pairwise_iff_getElem]at hnd
   rcases Nat.lt_or_gt_of_ne hne2 with c|c
   ·exact hnd (d'[i]).val (d'[j]).val (by simp) (by simp) c (by simpa using h)
   ·exact hnd (d'[j]).val (d'[i]).val (by simp) (by simp) c (by simpa using h.symm)
  ·exact h
  ·rw[hlt]at h;cases h
 have hsc:zIG T=d'.toList.map (fun i=>T[i.val]):=asc_uniq (zJU hnd).1 hasc ((zJU hnd).2.trans hperm.symm)
 have hH':=Go.Proofs.holdsK_sortWorldK_c enc 2 w g 0 d d' m os hH hglt (hd'z.trans hdz.symm)
 rw[hsc]
 intro W' hW' j hj
 have hj':j<d'.size:=by simpa using hj
 have hjT:j<T.length:=by omega
 obtain⟨pa,pn,pc,va,vn,vc,en,k1,k2,k3,k4,k5,k6⟩:=hCK W' ((hK.mono fun k h=>h.1).trans (hW'.mono fun k h=>.inr h.2)) d'[j]
 have hc0:=(hH' (j*2) (by rw[Go.Sort.size_flatK];omega)).1
 have hc1:=(hH' (j*2+1) (by rw[Go.Sort.size_flatK];omega)).1
 rw[Go.Sort.get_flatK enc 2 d' _ (by omega),show j*2/2=j by omega,show j*2%2=0 by omega,getElem!_pos d' j hj',en]at hc0
 rw[Go.Sort.get_flatK enc 2 d' _ (by omega),show(j*2+1)/2=j by omega,show(j*2+1)%2=1 by omega,getElem!_pos d' j hj',en]at hc1
 have ej:(d'.toList.map (fun i=>T[i.val]))[j]=T[(d'[j]).val]:=by simp
 rw[ej]
 exact⟨g,0,pa,pn,pc,va,vn,vc,rfl,Nat.lt_of_lt_of_le hglt (Nat.le_trans hK.size hW'.size),hW'.cell hc0 (.inl rfl),hW'.cell hc1 (.inl rfl),k1,k3,k5,k2,k4,k6⟩
end
section
open Go.RowKit
theorem zCP.at{W:World}{base n c:Nat}{S:Nat->Prop}{a:Option Addr}{T:List FitT}(h:zCP W base S (.slice a n c) T){j:Nat}(hj:j<T.length):
 ∃g us ur,a=some ⟨g,0,none⟩∧g<W.heap.size∧S g∧W.cell? ⟨g,j*2,none⟩=some us∧W.cell? ⟨g,j*2+1,none⟩=some ur∧FitC W S us ur T[j]:=by
 obtain⟨xs,ho,hg,he⟩:=h
 obtain⟨us,ur,h1,h2,h3⟩:=he j hj
 rcases ho.2 with⟨_,h0⟩|⟨g,cap,cur,e,hbg,hgg,hnc,hcm,hsz,htk⟩
 ·omega
 ·cases e
  have hc:∀i,i<T.length*2->W.cell? ⟨g,i,none⟩=xs[i]? :=fun i hi=>
   World.ownsRow.cellAt (w:=W) (base:=base) (e:=73) (size:=2) (g:=g) (n:=T.length) (cap:=c) (xs:=xs) ⟨ho.1,.inr ⟨g,c,cur,rfl,hbg,hgg,hnc,hcm,hsz,htk⟩⟩ i hi
  exact⟨g,us,ur,rfl,(Array.getElem?_eq_some_iff.1 hgg).1,hg g rfl,by rw[hc _ (by omega)];exact h1,by rw[hc _ (by omega)];exact h2,h3⟩
def AnsB(W:World)(b:Nat)(x y:Value)(r:Rt)(v:Value):Prop:=W.heap[b]? =some (.cells #[x,y,.int .i64 r.1,.int .i64 r.2,v] 89 (0,0))
theorem AnsB.lt{W:World}{b:Nat}{x y:Value}{r:Rt}{v:Value}(h:AnsB W b x y r v):b<W.heap.size:=(Array.getElem?_eq_some_iff.1 h).1
theorem AnsB.cells{W:World}{b:Nat}{x y:Value}{r:Rt}{v:Value}(h:AnsB W b x y r v):W.cell? ⟨b,0,none⟩=some x∧W.cell? ⟨b,1,none⟩=some y∧W.cell? ⟨b,2,none⟩=some (.int .i64 r.1)∧W.cell? ⟨b,3,none⟩=some (.int .i64 r.2)∧W.cell? ⟨b,4,none⟩=some v∧(∀o,W.frozen? ⟨b,o,none⟩=false):=by
 unfold AnsB at h
 exact⟨by simp[World.cell?,h],by simp[World.cell?,h],by simp[World.cell?,h],by simp[World.cell?,h],by simp[World.cell?,h],fun o=>by simp[World.frozen?,h]⟩
theorem AnsB.keep{W W':World}{b:Nat}{x y:Value}{r:Rt}{v:Value}(h:AnsB W b x y r v)(hk:W'.heap[b]? =W.heap[b]?):AnsB W' b x y r v:=hk.trans h
theorem AnsB.setN{W:World}{b:Nat}{x y:Value}{r s:Rt}{v:Value}(h:AnsB W b x y r v):AnsB ((W.setCell ⟨b,2,none⟩ (.int .i64 s.1)).setCell ⟨b,3,none⟩ (.int .i64 s.2)) b x y s v:=by
 have h1:=zAP h 2 (.int .i64 s.1)
 have h2:=zAP h1 3 (.int .i64 s.2)
 unfold AnsB
 rw[h2];rfl
theorem AnsB.setC{W:World}{b:Nat}{x y:Value}{r:Rt}{v:Value}(h:AnsB W b x y r v)(u:Value):AnsB (W.setCell ⟨b,4,none⟩ u) b x y r u:=by
 have h1:=zAP h 4 u
 unfold AnsB
 rw[h1];rfl
def set5(W:World)(b:Nat)(x y:Value)(r:Rt)(v:Value):World:=((((W.setCell ⟨b,0,none⟩ x).setCell ⟨b,1,none⟩ y).setCell ⟨b,2,none⟩ (.int .i64 r.1)).setCell ⟨b,3,none⟩ (.int .i64 r.2)).setCell ⟨b,4,none⟩ v
theorem AnsB.set5{W:World}{b:Nat}{x y x' y':Value}{r r':Rt}{v v':Value}(h:AnsB W b x y r v):AnsB (set5 W b x' y' r' v') b x' y' r' v':=by
 have h1:=zAP h 0 x'
 have h2:=zAP h1 1 y'
 have h3:=zAP h2 2 (.int .i64 r'.1)
 have h4:=zAP h3 3 (.int .i64 r'.2)
 have h5:=zAP h4 4 v'
 unfold AnsB
 unfold Go.Proofs.YtlffndehhhpgjaaGreat.set5
 rw[h5];rfl
theorem zME(W:World)(b:Nat)(x y:Value)(r:Rt)(v:Value):Keep (fun k=>k≠b) W (set5 W b x y r v):=
 ((((Keep.set W b 0 _).trans (Keep.set _ b 1 _)).trans (Keep.set _ b 2 _)).trans (Keep.set _ b 3 _)).trans (Keep.set _ b 4 _)
def zKQ(w:World)(x y:Value)(M:Mask)(Y:List Int)(e:Ending)(w':World):Prop:=
 Below w.heap.size w w'∧((zAU M Y []≠0∧e=.returned (.tuple #[.agg #[.slice none 0 0,.slice none 0 0,.int .i64 0,.int .i64 0,.slice none 0 0],.int .i64 (zAU M Y [])]))∨
  (zAU M Y []=0∧zBM M Y 10=[]∧e=.returned (.tuple #[.agg #[.slice none 0 0,.slice none 0 0,.int .i64 0,.int .i64 0,.slice none 0 0],.int .i64 10]))∨
  (zAU M Y []=0∧zBM M Y 10≠[]∧∃a c,e=.returned (.tuple #[.agg #[x,y,.int .i64 (valF M Y).1,.int .i64 (valF M Y).2,.slice a (zKH M Y).length c],.int .i64 0])∧zJM w' a (zKH M Y)))
structure AskI (w wa w2:World) (ab:Nat) (x y:Value) (F:List FitT) (q:Nat) (Z:World):Prop where
 b:Below w.heap.size w Z
 k:Keep (fun k=>k<w2.heap.size∧k≠ab) w2 Z
 o:∃v,AnsB Z ab x y (zBL (F.take q)).1 v∧zCP Z w2.heap.size (fun k=>wa.heap.size<=k) v (zBL (F.take q)).2∧((zBL (F.take q)).2=[]->v=.slice none 0 0)
theorem take_scan{F:List FitT}{q:Nat}(h:q<F.length):zBL (F.take (q+1))=stepC (zBL (F.take q)) F[q]:=by rw[List.take_succ_eq_append_getElem h,zJY]
theorem scan_len:∀l:List FitT,(zBL l).2.length<=l.length:=by
 intro l
 induction hn:l.length generalizing l with
 |zero=>
  have:l=[]:=List.length_eq_zero_iff.1 hn
  subst this;simp[zBL]
 |succ n ih=>
  obtain⟨m,f,rfl⟩:∃m f,l=m++[f]:=⟨l.dropLast,l.getLast (by intro e;rw[e]at hn;simp at hn),(List.dropLast_concat_getLast _).symm⟩
  have:=ih m (by simpa using hn)
  rw[zJY]
  unfold stepC
  split
  ·simp
  ·split
   ·simp;omega
   ·omega
theorem asked_err(w:World)(a a2:Option Addr)(n cap n2 cap2:Nat)(M:Mask)(Y:List Int)(hn:M.length=n)(hn2:Y.length=n2)(hm:n<=maxLen)(hm2:n2<=maxLen)(H:zAN w a M)(H2:zAI w a2 Y)(h0:zAU M Y []≠0):
 Calls Tryz.prog 73 #[.slice a n cap,.slice a2 n2 cap2] w (zKQ w (.slice a n cap) (.slice a2 n2 cap2) M Y):=by
 obtain⟨wz,hwz⟩:=exq (w.alloc (.cells #[.slice none 0 0,.slice none 0 0,.int .i64 0,.int .i64 0,.slice none 0 0] 89))
 obtain⟨rb,hrb⟩:=exq (w.heap.size)
 have hbz:Below w.heap.size w wz:=by rw[hwz];exact(Below.refl _ _).alloc (Nat.le_refl _) _
 have hrz:AnsB wz rb (.slice none 0 0) (.slice none 0 0) (0,0) (.slice none 0 0):=by rw[hwz,hrb];exact World.alloc_heap_new _ _
 have HC:=hid (zKM wz a a2 none n cap n2 cap2 0 0 M Y [] hn hn2 rfl hm hm2 (by decide) (H.below hbz) (H2.below hbz) (fun j hj=>by simp at hj))
 have hne:(zAU M Y [] !=0)=true:=by simpa using h0
 have H0:=hid h0
 have HP:=hid (show ∀e w',Below w.heap.size w w'->e=.returned (.tuple #[.agg #[.slice none 0 0,.slice none 0 0,.int .i64 0,.int .i64 0,.slice none 0 0],.int .i64 (zAU M Y [])])->zKQ w (.slice a n cap) (.slice a2 n2 cap2) M Y e w' from fun e w' h1 h2=>⟨h1,.inl ⟨h0,h2⟩⟩)
 obtain⟨E,hE⟩:=exq (zAU M Y [])
 rw[<- hE]at HC hne H0 HP
 have HRZ:=hid hrz
 have HBZ:=hid hbz
 have HWZ:=hid hwz
 clear hn hn2 H H2 h0 hE hrz hbz hwz
 have HRB:=hid hrb
 go_enter Tryz.func73,Tryz.ntmps73
 go_upto_region 1 with fail
 rw[<- hrb,<- HWZ.out]
 clear hrb
 go_wp2_with (go_at_call 101;refine HC.out.mono ?_;rintro e w1 ⟨rfl,hb1⟩;refine Stop.of ?_)
 refine Stop.go ?_
 have A1:=HRZ.out.keep (hb1.block _ HRZ.out.lt)
 obtain⟨c0,c1,c2,c3,c4,cf⟩:=A1.cells
 have f0:=cf 0
 have f1:=cf 1
 have f2:=cf 2
 have f3:=cf 3
 have f4:=cf 4
 have hlt:=A1.lt
 obtain⟨W5,hW5⟩:=exq (set5 w1 rb (.slice none 0 0) (.slice none 0 0) (0,0) (.slice none 0 0))
 have A5:AnsB W5 rb (.slice none 0 0) (.slice none 0 0) (0,0) (.slice none 0 0):=by rw[hW5];exact A1.set5
 have HB5:=hid (show Below w.heap.size w W5 by rw[hW5];exact(zME w1 rb _ _ _ _).below (zAA HBZ.out hb1) (Nat.le_trans HBZ.out.size hb1.size) fun k hk=>by have:=HRB.out;omega)
 have HW5:=hid (show W5=((((w1.setCell ⟨rb,0,none⟩ (.slice none 0 0)).setCell ⟨rb,1,none⟩ (.slice none 0 0)).setCell ⟨rb,2,none⟩ (.int .i64 0)).setCell ⟨rb,3,none⟩ (.int .i64 0)).setCell ⟨rb,4,none⟩ (.slice none 0 0)from hW5)
 have HA5:=hid A5
 clear hW5 A5 A1 cf hb1
 go_wp2
 rw[<- HW5.out]
 obtain⟨g0,g1,g2,g3,g4,_⟩:=HA5.out.cells
 refine bodyPost_ret (v:=.tuple #[.agg #[.slice none 0 0,.slice none 0 0,.int .i64 0,.int .i64 0,.slice none 0 0],.int .i64 E]) ?_ rfl (HP.out _ _ HB5.out rfl)
 simp[results,Tryz.results73,go_sem,g0,g1,g2,g3,g4]
end
section
open Go.RowKit
theorem AskI.below{w wa w2:World}{ab:Nat}{x y:Value}{F:List FitT}{q:Nat}{Z Z':World}(h:AskI w wa w2 ab x y F q Z)(hb:Below Z.heap.size Z Z'):AskI w wa w2 ab x y F q Z':=by
 obtain⟨v,h1,h2,h3⟩:=h.o
 exact⟨zAA h.b hb,h.k.trans (Keep.of_below hb),v,h1.keep (hb.block _ h1.lt),h2.below hb,h3⟩
theorem AskI.next{w wa w2:World}{ab:Nat}{x y:Value}{F:List FitT}{q:Nat}{Z:World}(h:AskI w wa w2 ab x y F q Z)(e:zBL (F.take (q+1))=zBL (F.take q)):AskI w wa w2 ab x y F (q+1) Z:=by
 obtain⟨v,h1,h2,h3⟩:=h.o
 exact⟨h.b,h.k,v,by rw[e];exact h1,by rw[e];exact h2,by rw[e];exact h3⟩
theorem zCP.one{W:World}{base:Nat}{S:Nat->Prop}{us ur:Value}{f:FitT}(hb:base<=W.heap.size)(hS:S W.heap.size)(h:FitC W S us ur f):zCP (W.alloc (.cells #[us,ur] 73)) base S (.slice (some ⟨W.heap.size,0,none⟩) 1 1) [f]:=by
 have hB:Below W.heap.size W (W.alloc (.cells #[us,ur] 73)):=(Below.refl _ _).alloc (Nat.le_refl _) _
 refine⟨[us,ur],⟨rfl,.inr ⟨W.heap.size,1,#[us,ur],rfl,hb,World.alloc_heap_new _ _,?_⟩⟩,fun k hk=>?_,fun j hj=>?_⟩
 ·exact⟨Nat.le_refl _,by unfold maxLen;decide,rfl,rfl⟩
 ·obtain rfl:W.heap.size=k:=by simpa[Value.ownBlock]using hk
  exact hS
 ·obtain rfl:j=0:=by simp at hj;omega
  exact⟨us,ur,rfl,rfl,h.keep (Keep.of_below hB:Keep (fun _=>True) _ _) fun b hb _ _=>⟨trivial,hb⟩⟩
theorem asked_ok(hRat:RatioLaw)(w:World)(a a2:Option Addr)(n cap n2 cap2:Nat)(M:Mask)(Y:List Int)(hn:M.length=n)(hn2:Y.length=n2)(hm:n<=maxLen)(hm2:n2<=maxLen)(H:zAN w a M)(H2:zAI w a2 Y)(h0:zAU M Y []=0):
 Calls Tryz.prog 73 #[.slice a n cap,.slice a2 n2 cap2] w (zKQ w (.slice a n cap) (.slice a2 n2 cap2) M Y):=by
 obtain⟨wz,hwz⟩:=exq (w.alloc (.cells #[.slice none 0 0,.slice none 0 0,.int .i64 0,.int .i64 0,.slice none 0 0] 89))
 obtain⟨rb,hrb⟩:=exq (w.heap.size)
 have hbz:Below w.heap.size w wz:=by rw[hwz];exact(Below.refl _ _).alloc (Nat.le_refl _) _
 have hrz:AnsB wz rb (.slice none 0 0) (.slice none 0 0) (0,0) (.slice none 0 0):=by rw[hwz,hrb];exact World.alloc_heap_new _ _
 have HC:=hid (zKM wz a a2 none n cap n2 cap2 0 0 M Y [] hn hn2 rfl hm hm2 (by decide) (H.below hbz) (H2.below hbz) (fun j hj=>by simp at hj))
 obtain⟨hM,hyn,hyB,_⟩:=zFG h0
 obtain⟨hM',m1,m6,hc1,hc10⟩:=zDJ hM
 -- the world with the box of the answer
 obtain⟨E,hE⟩:=exq (zAU M Y [])
 rw[<- hE]at HC
 have hE0:E=0:=hE.trans h0
 subst hE0
 have HP0:=hid (show ∀e w',Below w.heap.size w w'->zBM M Y 10=[]->e=.returned (.tuple #[.agg #[.slice none 0 0,.slice none 0 0,.int .i64 0,.int .i64 0,.slice none 0 0],.int .i64 10])->zKQ w (.slice a n cap) (.slice a2 n2 cap2) M Y e w' from fun e w' h1 h2 h3=>⟨h1,.inr (.inl ⟨h0,h2,h3⟩)⟩)
 have HP1:=hid (show ∀ca c e w',Below w.heap.size w w'->zBM M Y 10≠[]->e=.returned (.tuple #[.agg #[.slice a n cap,.slice a2 n2 cap2,.int .i64 (zBL (zBM M Y 10)).1.1,.int .i64 (zBL (zBM M Y 10)).1.2,.slice ca (zIG (zBL (zBM M Y 10)).2).length c],.int .i64 0])->zJM w' ca (zIG (zBL (zBM M Y 10)).2)->zKQ w (.slice a n cap) (.slice a2 n2 cap2) M Y e w' from fun ca c e w' h1 h2 h3 h4=>⟨h1,.inr (.inr ⟨h0,h2,ca,c,h3,h4⟩)⟩)
 have H0:=hid h0
 have HDF:=hid (fun(X:World) (hX:Below w.heap.size w X)=>dfits_c X a a2 n cap n2 cap2 M Y hn hn2 hm hm2 (H.below hX) (H2.below hX) h0)
 have HFV:=hid (fun(f:FitT) (hf:f∈zBM M Y 10)=>show f.2.length<=10∧f.2.all zAH=true∧0<(nrmQ f.2).2∧zAH (zBA f)=true from by
  obtain⟨k1,k2,k3,k4,k5,k6,_⟩:=zEP hM hyn hyB hf
  have:=(zKN (show f∈allF M Y by rw[zNJ hc10];exact hf)).2.2
  exact⟨by omega,k3,k5,k6⟩)
 have HND:=hid (fits_nodup (y:=Y) hM)
 have HLN:=hid (show(zBM M Y 10).length<=11264 by
  have h3:=zFD M Y (zAC M) (min (min 10 (zAC M)) M.length+1)
  have h4:2 ^ (zAC M)<=1024:=Nat.pow_le_pow_right (by omega) (show zAC M<=10 by omega)
  have h5:(min (min 10 (zAC M)) M.length+1)*2 ^ (zAC M)<=11*1024:=Nat.mul_le_mul (by omega) h4
  have h6:(zBM M Y 10).length=(zBX M Y (zAC M) (min (min 10 (zAC M)) M.length+1)).length:=rfl
  omega)
 have HSF:=hid (zFR (zBM M Y 10) (fun f hf=>(HFV.out f hf).2.2.2))
 obtain⟨F,hF⟩:=exq (zBM M Y 10)
 rw[<- hF]at HDF HFV HND HLN HP0 HP1 HSF
 have HF:=hid hF
 have HRZ:=hid hrz
 have HBZ:=hid hbz
 have HWZ:=hid hwz
 have HRB:=hid hrb
 clear hn hn2 H H2 h0 hM hyn hyB hM' m1 m6 hc1 hc10 hE hF hrz hbz hwz
 go_enter Tryz.func73,Tryz.ntmps73
 go_upto_region 1 with fail
 rw[<- hrb,<- HWZ.out]
 clear hrb
 go_upto_region 5 with (go_at_call 101;refine HC.out.mono ?_;rintro e w1 ⟨rfl,hb1⟩;refine Stop.of ?_)
 refine Stop.go ?_
 have HB1:=hid hb1
 clear hb1
 go_upto_region 5 with fail
 obtain⟨ab,hab⟩:=exq (w1.heap.size)
 obtain⟨wa,hwa⟩:=exq (w1.alloc (.cells #[.slice a n cap,.slice a2 n2 cap2,.int .i64 0,.int .i64 0,.slice none 0 0] 89))
 rw[<- hab,<- hwa]
 have hba:Below w1.heap.size w1 wa:=by rw[hwa];exact(Below.refl _ _).alloc (Nat.le_refl _) _
 have hsa:wa.heap.size=ab+1:=by rw[hwa,hab];simp
 have A0:AnsB wa ab (.slice a n cap) (.slice a2 n2 cap2) (0,0) (.slice none 0 0):=by rw[hwa,hab];exact World.alloc_heap_new _ _
 have HBA:=hid (zAA HBZ.out (zAA HB1.out hba))
 have RA:=HRZ.out.keep ((zAA HB1.out hba).block _ HRZ.out.lt)
 have hrab:rb<ab:=by rw[hab];have:=HRZ.out.lt;have:=HB1.out.size;omega
 have HSA:=hid hsa
 have HA0:=hid A0
 have HRA:=hid RA
 have HRAB:=hid hrab
 have HDF2:=hid (HDF.out wa HBA.out)
 clear hab hwa hba hsa A0 RA hrab HB1 HDF HC
 obtain⟨c0,c1,c2,c3,c4,cf⟩:=HA0.out.cells
 clear cf
 go_wp2_with (go_at_call 135;refine HDF2.out.mono ?_;rintro e w2 ⟨hb2,v2,base,rfl,hbs,hf2⟩;obtain⟨fa,fc,rfl⟩:=hf2.slice;refine Stop.of ?_)
 refine Stop.go ?_
 have HB2:=hid hb2
 have HBS:=hid hbs
 have HF2:=hid hf2
 clear hb2 hbs hf2 c0 c1 c2 c3 c4 HDF2
 go_wp2
 go_loopw [28] (fun v wr=>∃q:Nat,q<=F.length∧v=.int .i64 q∧AskI w wa w2 ab (.slice a n cap) (.slice a2 n2 cap2) F q wr) (fun v _=>F.length-(intOf v).toNat)
 case atStart=>
  refine⟨0,Nat.zero_le _,rfl,zAA HBA.out HB2.out,Keep.refl _ _,.slice none 0 0,?_,zCP.nil _ _ _,fun _=>rfl⟩
  exact HA0.out.keep (HB2.out.block _ HA0.out.lt)
 case round=>
  obtain⟨q,hq,rfl,hI⟩:=hrel
  by_cases hlt:q<F.length
  ·have hFr:=HF2.out.keep hI.k (fun b hb hl=>show(b<w2.heap.size∧b≠ab)∧wa.heap.size<=b from⟨⟨hl,by have:=HSA.out;omega⟩,hb⟩)
   obtain⟨g,us,ur,rfl,hgl,hgS,hcu,hcr,hFC⟩:=hFr.at hlt
   have hfm:F[q]∈F:=List.getElem_mem hlt
   obtain⟨k1,k2,k3,k4⟩:=HFV.out _ hfm
   obtain⟨pa,pn,pc,va,vn,vc,rfl,rfl,f1,f2,f3,f4,f5,f6,f7,f8⟩:=id hFC
   have hvb:ValB F[q].2:=zFY k2
   obtain⟨NQ,hNQ⟩:=exq (nrmQ F[q].2)
   have hbnd:=zPG hvb (Nat.le_refl _) k1
   have hbnd2:NQ.1.natAbs<=10485760000000000000000000000000000000∧1<=NQ.2∧NQ.2.natAbs<=104857600000000000000000000:=by rw[hNQ];exact hbnd
   obtain⟨nf,hnf⟩:=exq (zBA F[q])
   obtain⟨SV,hSV⟩:=exq (sumV NQ.1 NQ.2)
   have HNM:=hid (show ∀X,Below wr.heap.size wr X->Calls Tryz.prog 82 #[.slice va vn vc] X fun e w'=>e=.returned SV∧Below X.heap.size X w' from fun X hX=>by
    have h:=dnorm_c X va vn vc F[q].2 f2 (by omega) (f6.below hX) hvb
    rw[<- hNQ,<- hSV]at h;exact h)
   have hnv:nf=zAR NQ.1 NQ.2:=by rw[hnf,hNQ];rfl
   have hvv:zAH nf=true:=by rw[hnf];exact k4
   have HRT:=hid (show ∀X,Calls Tryz.prog 83 #[SV] X fun e w'=>e=.returned (.tuple #[.agg #[.int .i64 nf.1,.int .i64 nf.2],.bool true])∧Below X.heap.size X w' from fun X=>by
    have h:=hRat X NQ.1 NQ.2 (by omega) (by omega)
    rw[<- hSV]at h
    refine h.mono ?_
    rintro e w' ⟨⟨r,he,hr⟩,hb⟩
    rw[<- hnv]at he hr
    have hr2:=hr hvv
    subst hr2
    rw[hvv]at he
    exact⟨he,hb⟩)
   obtain⟨s,hs⟩:=exq ((zBL (F.take q)).1)
   obtain⟨T,hT⟩:=exq ((zBL (F.take q)).2)
   obtain⟨n1,n2,n3,n4,_⟩:=zAW.1 hvv
   have hsb:F64 s.1∧F64 s.2:=by
    have hsf:=zFR (F.take q) (fun f hf=>(HFV.out f (List.mem_of_mem_take hf)).2.2.2)
    by_cases e:F.take q=[]
    ·rw[hs,hsf.1 e];exact⟨⟨by decide,by decide⟩,⟨by decide,by decide⟩⟩
    ·obtain⟨_,⟨f,hf,e2⟩,_⟩:=hsf.2 e
     obtain⟨g1,g2,g3,g4,_⟩:=zAW.1 ((HFV.out f (List.mem_of_mem_take hf)).2.2.2)
     rw[hs,e2]
     exact⟨⟨by omega,by omega⟩,⟨by omega,by omega⟩⟩
   obtain⟨c,hc⟩:=exq (cmpF nf s)
   have HCM:=hid (show ∀X,Calls Tryz.prog 136 #[.agg #[.int .i64 nf.1,.int .i64 nf.2],.agg #[.int .i64 s.1,.int .i64 s.2]] X fun e w'=>e=.returned (.int .i64 c)∧Below X.heap.size X w' from fun X=>by
    have h:=zKE X nf.1 nf.2 s.1 s.2 ⟨by omega,by omega⟩ ⟨by omega,by omega⟩ hsb.1 hsb.2
    rw[hc];exact h)
   have hst:zBL (F.take (q+1))=if T=[]∨c<0 then(nf,[F[q]])else if c=0 then(s,T++[F[q]])else(s,T):=by
    rw[take_scan hlt];unfold stepC;rw[<- hs,<- hT,<- hnf,<- hc,hs,hT]
   have hTl:T.length<=q:=by rw[hT];have:=scan_len (F.take q);simp at this;omega
   have HST:=hid hst
   have HTL:=hid hTl
   have HI:=hid hI
   have HFC:=hid hFC
   have HS:=hid hs
   have HT:=hid hT
   clear hSV hNQ hnf hnv hvv n1 n2 n3 n4 hsb hst hTl hI hFr hFC hs hT hc f1 f2 f3 f4 f5 f6 f7 f8 hbnd hbnd2 k1 k2 k3 k4 hvb hfm hq
   have hlen:=HLN.out
   have i0:(q:Int)<(F.length:Int):=by omega
   go_upto_region 8 with fail
   obtain⟨pf,hpf⟩:=exq (wr.heap.size)
   obtain⟨wf,hwf⟩:=exq (wr.alloc (.cells #[.slice pa pn pc,.slice va vn vc] 73))
   rw[<- hpf,<- hwf]
   have hbf:Below wr.heap.size wr wf:=by rw[hwf];exact(Below.refl _ _).alloc (Nat.le_refl _) _
   have PF:wf.heap[pf]? =some (.cells #[.slice pa pn pc,.slice va vn vc] 73 (0,0)):=by rw[hwf,hpf];exact World.alloc_heap_new _ _
   have hpfl:pf<wf.heap.size:=(Array.getElem?_eq_some_iff.1 PF).1
   have HBF:=hid hbf
   have HPF:=hid PF
   have HPL:=hid hpfl
   have HPN:=hid (show ab<pf by rw[hpf];have h1:=HI.out.k.size;have h2:=HB2.out.size;have h3:=HSA.out;omega)
   clear hpf hwf hbf hpfl
   have d0:wf.cell? ⟨pf,0,none⟩=some (.slice pa pn pc):=by simp[World.cell?,PF]
   have d1:wf.cell? ⟨pf,1,none⟩=some (.slice va vn vc):=by simp[World.cell?,PF]
   clear PF
   go_upto_region 9 with (first
    | (go_at_call 82;refine(HNM.out _ HBF.out).mono ?_;rintro e w3 ⟨rfl,hb3⟩;have HB3:=hid hb3;clear hb3;refine Stop.of ?_)
    | (go_at_call 83;refine(HRT.out _).mono ?_;rintro e w4 ⟨rfl,hb4⟩;refine Stop.of ?_))
   refine Stop.go ?_
   go_upto_region 9 with (first
    | (go_at_call 83;refine(HRT.out _).mono ?_;rintro e w4 ⟨rfl,hb4⟩;have HB4:=hid hb4;clear hb4;refine Stop.of ?_))
   refine Stop.go ?_
   clear d0 d1
   go_upto_region 9 with fail
   obtain⟨pr,hpr⟩:=exq (w4.heap.size)
   obtain⟨w5,hw5⟩:=exq (w4.alloc (.cells #[.int .i64 nf.1,.int .i64 nf.2] 29))
   rw[<- hpr,<- hw5]
   have hb5:Below wr.heap.size wr w5:=by rw[hw5];exact(zAA HBF.out (zAA HB3.out HB4.out)).alloc ((zAA HBF.out (zAA HB3.out HB4.out)).size) _
   have R5:RatI w5 pr nf:=by rw[hw5,hpr];exact RatI.made w4 nf
   have HPR:=hid (show ab<pr by rw[hpr];have h1:=(zAA HB3.out HB4.out).size;have h2:=HPL.out;have h3:=HPN.out;omega)
   have P5:w5.heap[pf]? =some (.cells #[.slice pa pn pc,.slice va vn vc] 73 (0,0)):=by
    rw[hw5,Below.heap_alloc _ _ _ (by have h1:=(zAA HB3.out HB4.out).size;have h2:=HPL.out;omega),(zAA HB3.out HB4.out).block _ HPL.out];exact HPF.out
   have I5:=HI.out.below hb5
   have C5:FitC w5 (fun k=>wa.heap.size<=k) (.slice pa pn pc) (.slice va vn vc) F[q]:=HFC.out.keep (Keep.of_below hb5:Keep (fun _=>True) _ _) fun b hb _ _=>⟨trivial,hb⟩
   have HI5:=hid I5
   have HC5:=hid C5
   have HP5:=hid P5
   have HR5:=hid R5
   clear hb5 hpr hw5 I5 C5 P5 R5 HI HFC HBF HB3 HB4 HNM HRT HPF HPL
   obtain⟨v,hA,hFv,hv0⟩:=HI5.out.o
   rw[<- HS.out]at hA
   rw[<- HT.out]at hFv hv0
   obtain⟨r0,r1,r2,r3,r4⟩:=HR5.out.cells
   obtain⟨c0,c1,c2,c3,c4,cf⟩:=hA.cells
   have HA5:=hid hA
   have HV5:=hid hFv
   have HV0:=hid hv0
   clear hA hFv hv0 cf
   go_upto_region 10 with (go_at_call 136;refine(HCM.out _).mono ?_;rintro e w6 ⟨rfl,hb6⟩;refine Stop.of ?_)
   refine Stop.go ?_
   have HI6:=hid (HI5.out.below hb6)
   have HA6:=hid (HA5.out.keep (hb6.block _ HA5.out.lt))
   have HV6:=hid (HV5.out.below hb6)
   have HC6:=hid (HC5.out.keep (Keep.of_below hb6:Keep (fun _=>True) _ _) fun b hb _ _=>⟨trivial,hb⟩)
   have HP6:=hid (show w6.heap[pf]? =_ from(hb6.block _ (Array.getElem?_eq_some_iff.1 HP5.out).1).trans HP5.out)
   have HR6:=hid (HR5.out.keep (hb6.block _ HR5.out.lt))
   clear hb6 r0 r1 r2 r3 r4 c0 c1 c2 c3 c4 HI5 HA5 HV5 HC5 HP5 HR5
   go_upto_region 10 with fail
   obtain⟨r0,r1,r2,r3,r4⟩:=HR6.out.cells
   obtain⟨c0,c1,c2,c3,c4,cf⟩:=HA6.out.cells
   have d0:w6.cell? ⟨pf,0,none⟩=some (.slice pa pn pc):=by simp[World.cell?,HP6.out]
   have d1:w6.cell? ⟨pf,1,none⟩=some (.slice va vn vc):=by simp[World.cell?,HP6.out]
   have hcase:(T=[]∧v=.slice none 0 0)∨(∃g2 kap,T≠[]∧c<0∧v=.slice (some ⟨g2,0,none⟩) T.length kap)∨(∃g2 kap,T≠[]∧¬c<0∧v=.slice (some ⟨g2,0,none⟩) T.length kap):=by
    by_cases e:T=[]
    ·exact .inl ⟨e,HV0.out e⟩
    ·obtain⟨xs,ho,_⟩:=HV6.out
     rcases ho.2 with⟨_,h⟩|⟨g2,kap,cur,h,_⟩
     ·exact absurd (List.length_eq_zero_iff.1 h) e
     ·by_cases hc:c<0
      ·exact .inr (.inl ⟨g2,kap,e,hc,h⟩)
      ·exact .inr (.inr ⟨g2,kap,e,hc,h⟩)
   clear cf
   have heq:=fun(w:World) (a:Option Addr) (n c:Nat)=>Lib.run_eql_slice_nil (P:=Tryz.prog) w 87 73 a n c 0 0 Tryz.underlying87
   rcases hcase with⟨hT0,hv⟩|⟨g2,kap,hT0,hc0,hv⟩|⟨g2,kap,hT0,hc0,hv⟩
   ·have HT0:=hid hT0
    subst hv
    clear hT0
    go_upto_region 11 with fail
    refine zAF (fun _ _=>True) (by kernel_rfl) ?_
    obtain⟨wd,hwd⟩:=exq (w6.drew)
    have hbd:Below w6.heap.size w6 wd:=by rw[hwd];exact(Below.refl _ _).drew
    rw[<- hwd]
    have HID:=hid (HI6.out.below hbd)
    have HAD:=hid (HA6.out.keep (hbd.block _ HA6.out.lt))
    have HCD:=hid (HC6.out.keep (Keep.of_below hbd:Keep (fun _=>True) _ _) fun b hb _ _=>⟨trivial,hb⟩)
    have HPD:=hid (show wd.heap[pf]? =_ from(hbd.block _ (Array.getElem?_eq_some_iff.1 HP6.out).1).trans HP6.out)
    have HRD:=hid (HR6.out.keep (hbd.block _ HR6.out.lt))
    have HVD:=hid (HV6.out.below hbd)
    have HES:=hid (show zBL (F.take (q+1))=(nf,[F[q]])from by rw[HST.out,if_pos (.inl HT0.out)])
    clear hwd hbd r0 r1 r2 r3 r4 c0 c1 c2 c3 c4 d0 d1 heq
    refine zDU fun a0 ha0=>?_
    have hsz:a0.tmps.size=74:=by rw[ha0];rfl
    have v7:a0.eval (.tmp 7)=.pointer (some ⟨ab,0,none⟩):=by rw[ha0];rfl
    have v9:a0.eval (.tmp 9)=.pointer (some ⟨pf,0,none⟩):=by rw[ha0];rfl
    have v10:a0.eval (.tmp 10)=.pointer (some ⟨pr,0,none⟩):=by rw[ha0];rfl
    have HA0':=hid ha0
    clear ha0
    refine AnyT.regF [51,52,53,54,55] (fun l f W=>Keep (fun k=>k≠ab) wd W∧(l 0=true->f 51=.agg #[.int .i64 nf.1,.int .i64 nf.2])∧(l 1=true->f 52=.agg #[.slice pa pn pc,.slice va vn vc])∧(l 2=true->(∃gb,f 53=.slice (some ⟨gb,0,none⟩) 1 1)∧zCP W w2.heap.size (fun k=>wa.heap.size<=k) (f 53) [F[q]])∧(l 3=true->f 54=.pointer (some ⟨ab,2,none⟩))∧(l 5=true->f 55=.pointer (some ⟨ab,4,none⟩))∧(l 6=true->l 2=true)∧AnsB W ab (.slice a n cap) (.slice a2 n2 cap2) (if l 4=true then nf else s) (if l 6=true then f 53 else .slice none 0 0)) (by kernel_rfl) (by kernel_rfl) ?_ ?_ ?_
    ·rintro l f W i o ho hi hd ⟨hk,h0,h1,h2,h3,h5,h62,hA⟩
     have e51:zAE a0 [51,52,53,54,55] f (.tmp 51)=f 51:=by simp[zAE,hsz]
     have e52:zAE a0 [51,52,53,54,55] f (.tmp 52)=f 52:=by simp[zAE,hsz]
     have e53:zAE a0 [51,52,53,54,55] f (.tmp 53)=f 53:=by simp[zAE,hsz]
     have e54:zAE a0 [51,52,53,54,55] f (.tmp 54)=f 54:=by simp[zAE,hsz]
     have e55:zAE a0 [51,52,53,54,55] f (.tmp 55)=f 55:=by simp[zAE,hsz]
     have w7:zAE a0 [51,52,53,54,55] f (.tmp 7)=.pointer (some ⟨ab,0,none⟩):=by simp[zAE,v7]
     have w9:zAE a0 [51,52,53,54,55] f (.tmp 9)=.pointer (some ⟨pf,0,none⟩):=by simp[zAE,v9]
     have w10:zAE a0 [51,52,53,54,55] f (.tmp 10)=.pointer (some ⟨pr,0,none⟩):=by simp[zAE,v10]
     have hpl:=(Array.getElem?_eq_some_iff.1 HPD.out).1
     have hP:=(hk.block _ hpl (show pf≠ab by have:=HPN.out;omega)).trans HPD.out
     have hR:=HRD.out.keep (hk.block _ HRD.out.lt (show pr≠ab by have:=HPR.out;omega))
     have d0:W.cell? ⟨pf,0,none⟩=some (.slice pa pn pc):=by simp[World.cell?,hP]
     have d1:W.cell? ⟨pf,1,none⟩=some (.slice va vn vc):=by simp[World.cell?,hP]
     obtain⟨r0,r1,r2,r3,r4⟩:=hR.cells
     have hal:=hA.lt
     obtain⟨c0,c1,c2,c3,c4,cf⟩:=hA.cells
     have z2:=cf 2
     have z3:=cf 3
     have z4:=cf 4
     have hsk:∀(V V':World),Keep (fun k=>k≠ab) V V'->∀u T',zCP V w2.heap.size (fun k=>wa.heap.size<=k) u T'->zCP V' w2.heap.size (fun k=>wa.heap.size<=k) u T':=fun V V' hk u T' h=>h.keep hk fun b hb _=>⟨by have:=HSA.out;have:wa.heap.size<=b:=hb;omega,hb⟩
     rcases i with _|_|_|_|_|_|_|i
     ·replace ho:=Option.some.inj ho
      subst ho
      refine zAO.val (w':=W) (v:=.agg #[.int .i64 nf.1,.int .i64 nf.2]) rfl (by go_simp) ⟨hk,fun _=>rfl,h1,h2,h3,h5,h62,hA⟩
     ·replace ho:=Option.some.inj ho
      subst ho
      refine zAO.val (w':=W) (v:=.agg #[.slice pa pn pc,.slice va vn vc]) rfl (by go_simp) ⟨hk,h0,fun _=>rfl,h2,h3,h5,h62,hA⟩
     ·replace ho:=Option.some.inj ho
      subst ho
      have k1:=h1 (hd {on:=1,ground:=.data} (by simp) (by kernel_rfl))
      rw[k1]at e52
      have h6:l 6=false:=by
       cases h:l 6 with
       |false=>rfl
       |true=>rw[h62 h]at hi;cases hi
      have hbn:Below W.heap.size W (W.alloc (.cells #[.slice pa pn pc,.slice va vn vc] 73)):=(Below.refl _ _).alloc (Nat.le_refl _) _
      have hC:FitC W (fun k=>wa.heap.size<=k) (.slice pa pn pc) (.slice va vn vc) F[q]:=HCD.out.keep hk fun b hb _ _=>⟨by have:=HSA.out;have:wa.heap.size<=b:=hb;omega,hb⟩
      have hsw:w2.heap.size<=W.heap.size:=Nat.le_trans HID.out.k.size hk.size
      refine zAO.val (w':=W.alloc (.cells #[.slice pa pn pc,.slice va vn vc] 73)) (v:=.slice (some ⟨W.heap.size,0,none⟩) 1 1) rfl (by go_simp) ⟨hk.trans (Keep.of_below hbn),h0,h1,fun _=>⟨⟨_,rfl⟩,zCP.one hsw (Nat.le_trans HB2.out.size hsw) hC⟩,h3,h5,fun _=>rfl,?_⟩
      rw[h6]at hA
      have hA2:=hA.keep (hbn.block _ hal)
      show AnsB _ ab _ _ (if l 4=true then nf else s) (if l 6=true then _ else _)
      rw[h6];exact hA2
     ·replace ho:=Option.some.inj ho
      subst ho
      refine zAO.val (w':=W) (v:=.pointer (some ⟨ab,2,none⟩)) rfl (by go_simp) ⟨hk,h0,h1,h2,fun _=>rfl,h5,h62,hA⟩
     ·replace ho:=Option.some.inj ho
      subst ho
      have k0:=h0 (hd {on:=0,ground:=.data} (by simp) (by kernel_rfl))
      rw[k0]at e51
      have k3:=h3 (hd {on:=3,ground:=.data} (by simp) (by kernel_rfl))
      rw[k3]at e54
      have K4:Keep (fun k=>k≠ab) W ((W.setCell ⟨ab,2,none⟩ (.int .i64 nf.1)).setCell ⟨ab,3,none⟩ (.int .i64 nf.2)):=(Keep.set W ab 2 _).trans (Keep.set _ ab 3 _)
      refine zAO.skip (w':=(W.setCell ⟨ab,2,none⟩ (.int .i64 nf.1)).setCell ⟨ab,3,none⟩ (.int .i64 nf.2)) rfl (by go_simp) ⟨hk.trans K4,h0,h1,fun h=>⟨(h2 h).1,hsk _ _ K4 _ _ (h2 h).2⟩,h3,h5,h62,?_⟩
      exact hA.setN
     ·replace ho:=Option.some.inj ho
      subst ho
      refine zAO.val (w':=W) (v:=.pointer (some ⟨ab,4,none⟩)) rfl (by go_simp) ⟨hk,h0,h1,h2,h3,fun _=>rfl,h62,hA⟩
     ·replace ho:=Option.some.inj ho
      subst ho
      have l2:l 2=true:=hd {on:=2,ground:=.data} (by simp) (by kernel_rfl)
      obtain⟨⟨gb,k2⟩,hF2⟩:=h2 l2
      rw[k2]at e53
      have k5:=h5 (hd {on:=5,ground:=.data} (by simp) (by kernel_rfl))
      rw[k5]at e55
      have K4:Keep (fun k=>k≠ab) W (W.setCell ⟨ab,4,none⟩ (.slice (some ⟨gb,0,none⟩) 1 1)):=Keep.set W ab 4 _
      refine zAO.skip (w':=W.setCell ⟨ab,4,none⟩ (.slice (some ⟨gb,0,none⟩) 1 1)) rfl (by go_simp) ⟨hk.trans K4,h0,h1,fun h=>⟨(h2 h).1,hsk _ _ K4 _ _ (h2 h).2⟩,h3,h5,fun _=>l2,?_⟩
      show AnsB _ ab _ _ (if l 4=true then nf else s) (f 53)
      rw[k2]
      exact hA.setC _
     ·exact absurd ho (by simp)
    ·rintro l f W hall ⟨hk,h0,h1,h2,h3,h5,h62,hA⟩
     rw[hall 4 (by decide),hall 6 (by decide)]at hA
     obtain⟨⟨gb,k2⟩,hF2⟩:=h2 (hall 2 (by decide))
     rw[k2]at hF2 hA
     have HAI:=hid (show AskI w wa w2 ab (.slice a n cap) (.slice a2 n2 cap2) F (q+1) W from by
      refine⟨hk.below HID.out.b HID.out.b.size fun k hk=>by have:=HRAB.out;have:=HRB.out;omega,HID.out.k.trans (hk.mono fun k h=>h.2),.slice (some ⟨gb,0,none⟩) 1 1,?_,?_,?_⟩
      ·rw[HES.out];exact hA
      ·rw[HES.out];exact hF2
      ·rw[HES.out];intro h;cases h)
     clear h0 h1 h2 h3 h5 h62 hA hall hk hF2 k2
     rw[HA0'.out]
     simp only[zDG,List.foldl_cons,List.foldl_nil,Act.put,List.setIfInBounds_toArray,List.set_cons_succ,List.set_cons_zero]
     generalize f 51=z51,f 52=z52,f 53=z53,f 54=z54,f 55=z55
     clear hsz v7 v9 v10 HA0'
     go_wp2
     exact⟨⟨q+1,by omega,by go_num,HAI.out⟩,by simp[intOf];omega⟩
    ·intro l f hl
     refine⟨Keep.refl _ _,?_,?_,?_,?_,?_,?_,?_⟩
     ·intro h;rw[hl _ (by decide)]at h;cases h
     ·intro h;rw[hl _ (by decide)]at h;cases h
     ·intro h;rw[hl _ (by decide)]at h;cases h
     ·intro h;rw[hl _ (by decide)]at h;cases h
     ·intro h;rw[hl _ (by decide)]at h;cases h
     ·intro h;rw[hl _ (by decide)]at h;cases h
     ·rw[hl 4 (by decide),hl 6 (by decide)];exact HAD.out
   ·have HT0:=hid hT0
    have HC0:=hid hc0
    subst hv
    clear hT0
    go_upto_region 11 with fail
    clear hc0
    refine zAF (fun _ _=>True) (by kernel_rfl) ?_
    obtain⟨wd,hwd⟩:=exq (w6.drew)
    have hbd:Below w6.heap.size w6 wd:=by rw[hwd];exact(Below.refl _ _).drew
    rw[<- hwd]
    have HID:=hid (HI6.out.below hbd)
    have HAD:=hid (HA6.out.keep (hbd.block _ HA6.out.lt))
    have HCD:=hid (HC6.out.keep (Keep.of_below hbd:Keep (fun _=>True) _ _) fun b hb _ _=>⟨trivial,hb⟩)
    have HPD:=hid (show wd.heap[pf]? =_ from(hbd.block _ (Array.getElem?_eq_some_iff.1 HP6.out).1).trans HP6.out)
    have HRD:=hid (HR6.out.keep (hbd.block _ HR6.out.lt))
    have HVD:=hid (HV6.out.below hbd)
    have HES:=hid (show zBL (F.take (q+1))=(nf,[F[q]])from by rw[HST.out,if_pos (.inr HC0.out)])
    clear hwd hbd r0 r1 r2 r3 r4 c0 c1 c2 c3 c4 d0 d1 heq
    refine zDU fun a0 ha0=>?_
    have hsz:a0.tmps.size=74:=by rw[ha0];rfl
    have v7:a0.eval (.tmp 7)=.pointer (some ⟨ab,0,none⟩):=by rw[ha0];rfl
    have v9:a0.eval (.tmp 9)=.pointer (some ⟨pf,0,none⟩):=by rw[ha0];rfl
    have v10:a0.eval (.tmp 10)=.pointer (some ⟨pr,0,none⟩):=by rw[ha0];rfl
    have HA0':=hid ha0
    clear ha0
    refine AnyT.regF [51,52,53,54,55] (fun l f W=>Keep (fun k=>k≠ab) wd W∧(l 0=true->f 51=.agg #[.int .i64 nf.1,.int .i64 nf.2])∧(l 1=true->f 52=.agg #[.slice pa pn pc,.slice va vn vc])∧(l 2=true->(∃gb,f 53=.slice (some ⟨gb,0,none⟩) 1 1)∧zCP W w2.heap.size (fun k=>wa.heap.size<=k) (f 53) [F[q]])∧(l 3=true->f 54=.pointer (some ⟨ab,2,none⟩))∧(l 5=true->f 55=.pointer (some ⟨ab,4,none⟩))∧(l 6=true->l 2=true)∧AnsB W ab (.slice a n cap) (.slice a2 n2 cap2) (if l 4=true then nf else s) (if l 6=true then f 53 else .slice (some ⟨g2,0,none⟩) T.length kap)) (by kernel_rfl) (by kernel_rfl) ?_ ?_ ?_
    ·rintro l f W i o ho hi hd ⟨hk,h0,h1,h2,h3,h5,h62,hA⟩
     have e51:zAE a0 [51,52,53,54,55] f (.tmp 51)=f 51:=by simp[zAE,hsz]
     have e52:zAE a0 [51,52,53,54,55] f (.tmp 52)=f 52:=by simp[zAE,hsz]
     have e53:zAE a0 [51,52,53,54,55] f (.tmp 53)=f 53:=by simp[zAE,hsz]
     have e54:zAE a0 [51,52,53,54,55] f (.tmp 54)=f 54:=by simp[zAE,hsz]
     have e55:zAE a0 [51,52,53,54,55] f (.tmp 55)=f 55:=by simp[zAE,hsz]
     have w7:zAE a0 [51,52,53,54,55] f (.tmp 7)=.pointer (some ⟨ab,0,none⟩):=by simp[zAE,v7]
     have w9:zAE a0 [51,52,53,54,55] f (.tmp 9)=.pointer (some ⟨pf,0,none⟩):=by simp[zAE,v9]
     have w10:zAE a0 [51,52,53,54,55] f (.tmp 10)=.pointer (some ⟨pr,0,none⟩):=by simp[zAE,v10]
     have hpl:=(Array.getElem?_eq_some_iff.1 HPD.out).1
     have hP:=(hk.block _ hpl (show pf≠ab by have:=HPN.out;omega)).trans HPD.out
     have hR:=HRD.out.keep (hk.block _ HRD.out.lt (show pr≠ab by have:=HPR.out;omega))
     have d0:W.cell? ⟨pf,0,none⟩=some (.slice pa pn pc):=by simp[World.cell?,hP]
     have d1:W.cell? ⟨pf,1,none⟩=some (.slice va vn vc):=by simp[World.cell?,hP]
     obtain⟨r0,r1,r2,r3,r4⟩:=hR.cells
     have hal:=hA.lt
     obtain⟨c0,c1,c2,c3,c4,cf⟩:=hA.cells
     have z2:=cf 2
     have z3:=cf 3
     have z4:=cf 4
     have hsk:∀(V V':World),Keep (fun k=>k≠ab) V V'->∀u T',zCP V w2.heap.size (fun k=>wa.heap.size<=k) u T'->zCP V' w2.heap.size (fun k=>wa.heap.size<=k) u T':=fun V V' hk u T' h=>h.keep hk fun b hb _=>⟨by have:=HSA.out;have:wa.heap.size<=b:=hb;omega,hb⟩
     rcases i with _|_|_|_|_|_|_|i
     ·replace ho:=Option.some.inj ho
      subst ho
      refine zAO.val (w':=W) (v:=.agg #[.int .i64 nf.1,.int .i64 nf.2]) rfl (by go_simp) ⟨hk,fun _=>rfl,h1,h2,h3,h5,h62,hA⟩
     ·replace ho:=Option.some.inj ho
      subst ho
      refine zAO.val (w':=W) (v:=.agg #[.slice pa pn pc,.slice va vn vc]) rfl (by go_simp) ⟨hk,h0,fun _=>rfl,h2,h3,h5,h62,hA⟩
     ·replace ho:=Option.some.inj ho
      subst ho
      have k1:=h1 (hd {on:=1,ground:=.data} (by simp) (by kernel_rfl))
      rw[k1]at e52
      have h6:l 6=false:=by
       cases h:l 6 with
       |false=>rfl
       |true=>rw[h62 h]at hi;cases hi
      have hbn:Below W.heap.size W (W.alloc (.cells #[.slice pa pn pc,.slice va vn vc] 73)):=(Below.refl _ _).alloc (Nat.le_refl _) _
      have hC:FitC W (fun k=>wa.heap.size<=k) (.slice pa pn pc) (.slice va vn vc) F[q]:=HCD.out.keep hk fun b hb _ _=>⟨by have:=HSA.out;have:wa.heap.size<=b:=hb;omega,hb⟩
      have hsw:w2.heap.size<=W.heap.size:=Nat.le_trans HID.out.k.size hk.size
      refine zAO.val (w':=W.alloc (.cells #[.slice pa pn pc,.slice va vn vc] 73)) (v:=.slice (some ⟨W.heap.size,0,none⟩) 1 1) rfl (by go_simp) ⟨hk.trans (Keep.of_below hbn),h0,h1,fun _=>⟨⟨_,rfl⟩,zCP.one hsw (Nat.le_trans HB2.out.size hsw) hC⟩,h3,h5,fun _=>rfl,?_⟩
      rw[h6]at hA
      have hA2:=hA.keep (hbn.block _ hal)
      show AnsB _ ab _ _ (if l 4=true then nf else s) (if l 6=true then _ else _)
      rw[h6];exact hA2
     ·replace ho:=Option.some.inj ho
      subst ho
      refine zAO.val (w':=W) (v:=.pointer (some ⟨ab,2,none⟩)) rfl (by go_simp) ⟨hk,h0,h1,h2,fun _=>rfl,h5,h62,hA⟩
     ·replace ho:=Option.some.inj ho
      subst ho
      have k0:=h0 (hd {on:=0,ground:=.data} (by simp) (by kernel_rfl))
      rw[k0]at e51
      have k3:=h3 (hd {on:=3,ground:=.data} (by simp) (by kernel_rfl))
      rw[k3]at e54
      have K4:Keep (fun k=>k≠ab) W ((W.setCell ⟨ab,2,none⟩ (.int .i64 nf.1)).setCell ⟨ab,3,none⟩ (.int .i64 nf.2)):=(Keep.set W ab 2 _).trans (Keep.set _ ab 3 _)
      refine zAO.skip (w':=(W.setCell ⟨ab,2,none⟩ (.int .i64 nf.1)).setCell ⟨ab,3,none⟩ (.int .i64 nf.2)) rfl (by go_simp) ⟨hk.trans K4,h0,h1,fun h=>⟨(h2 h).1,hsk _ _ K4 _ _ (h2 h).2⟩,h3,h5,h62,?_⟩
      exact hA.setN
     ·replace ho:=Option.some.inj ho
      subst ho
      refine zAO.val (w':=W) (v:=.pointer (some ⟨ab,4,none⟩)) rfl (by go_simp) ⟨hk,h0,h1,h2,h3,fun _=>rfl,h62,hA⟩
     ·replace ho:=Option.some.inj ho
      subst ho
      have l2:l 2=true:=hd {on:=2,ground:=.data} (by simp) (by kernel_rfl)
      obtain⟨⟨gb,k2⟩,hF2⟩:=h2 l2
      rw[k2]at e53
      have k5:=h5 (hd {on:=5,ground:=.data} (by simp) (by kernel_rfl))
      rw[k5]at e55
      have K4:Keep (fun k=>k≠ab) W (W.setCell ⟨ab,4,none⟩ (.slice (some ⟨gb,0,none⟩) 1 1)):=Keep.set W ab 4 _
      refine zAO.skip (w':=W.setCell ⟨ab,4,none⟩ (.slice (some ⟨gb,0,none⟩) 1 1)) rfl (by go_simp) ⟨hk.trans K4,h0,h1,fun h=>⟨(h2 h).1,hsk _ _ K4 _ _ (h2 h).2⟩,h3,h5,fun _=>l2,?_⟩
      show AnsB _ ab _ _ (if l 4=true then nf else s) (f 53)
      rw[k2]
      exact hA.setC _
     ·exact absurd ho (by simp)
    ·rintro l f W hall ⟨hk,h0,h1,h2,h3,h5,h62,hA⟩
     rw[hall 4 (by decide),hall 6 (by decide)]at hA
     obtain⟨⟨gb,k2⟩,hF2⟩:=h2 (hall 2 (by decide))
     rw[k2]at hF2 hA
     have HAI:=hid (show AskI w wa w2 ab (.slice a n cap) (.slice a2 n2 cap2) F (q+1) W from by
      refine⟨hk.below HID.out.b HID.out.b.size fun k hk=>by have:=HRAB.out;have:=HRB.out;omega,HID.out.k.trans (hk.mono fun k h=>h.2),.slice (some ⟨gb,0,none⟩) 1 1,?_,?_,?_⟩
      ·rw[HES.out];exact hA
      ·rw[HES.out];exact hF2
      ·rw[HES.out];intro h;cases h)
     clear h0 h1 h2 h3 h5 h62 hA hall hk hF2 k2
     rw[HA0'.out]
     simp only[zDG,List.foldl_cons,List.foldl_nil,Act.put,List.setIfInBounds_toArray,List.set_cons_succ,List.set_cons_zero]
     generalize f 51=z51,f 52=z52,f 53=z53,f 54=z54,f 55=z55
     clear hsz v7 v9 v10 HA0'
     go_wp2
     exact⟨⟨q+1,by omega,by go_num,HAI.out⟩,by simp[intOf];omega⟩
    ·intro l f hl
     refine⟨Keep.refl _ _,?_,?_,?_,?_,?_,?_,?_⟩
     ·intro h;rw[hl _ (by decide)]at h;cases h
     ·intro h;rw[hl _ (by decide)]at h;cases h
     ·intro h;rw[hl _ (by decide)]at h;cases h
     ·intro h;rw[hl _ (by decide)]at h;cases h
     ·intro h;rw[hl _ (by decide)]at h;cases h
     ·intro h;rw[hl _ (by decide)]at h;cases h
     ·rw[hl 4 (by decide),hl 6 (by decide)];exact HAD.out
   ·have HT0:=hid hT0
    have HC0:=hid hc0
    subst hv
    clear hT0
    by_cases hc1:c=0
    ·subst hc1
     obtain⟨xs,ho,hg,he⟩:=HV6.out
     obtain⟨i0,hi0,hz0,hz1,hz2⟩:=info_parts info_fit
     have hg2:wa.heap.size<=g2:=hg g2 rfl
     have hg3:w2.heap.size<=g2:=by
      rcases ho.2 with⟨e,_⟩|⟨g',cap',cur,e,hb,_⟩
      ·cases e
      ·cases e;exact hb
     have HG2:=hid hg2
     have HG3:=hid hg3
     have HO:=hid ho
     have HE:=hid he
     have htl:=HTL.out
     have M1:=hid (show T.length+1<=maxLen by unfold maxLen;omega)
     have M2:=hid (show(T.length+1)*48<=140737488355328 by omega)
     have M3:=hid (show w2.heap.size<=(w6.alloc (.cells #[.slice pa pn pc,.slice va vn vc] 73)).heap.size by simp;have:=HI6.out.k.size;omega)
     have HES:=hid (show zBL (F.take (q+1))=(s,T++[F[q]])from by rw[HST.out,if_neg (fun h=>h.elim HT0.out HC0.out),if_pos rfl])
     clear ho hg he hg2 hg3 htl
     go_wp2_with (at_builtin;refine Stop.of ?_)
     refine Stop.go ?_
     refine wpList_append_lies _ rfl (.tmp 60) (.tmp 62) 87 rfl w2.heap.size 73 i0 (.agg #[.slice none 0 0,.slice none 0 0]) 2 48 Tryz.underlying87 hi0 hz0 hz1 hz2 rfl (by decide) (.slice (some ⟨g2,0,none⟩) T.length kap) T.length xs rfl (HO.out.alloc _) ⟨w6.heap.size,0,none⟩ 1 1 [.slice pa pn pc,.slice va vn vc] rfl rfl (newsD w6 _ _ _) (by intro u hu;simp at hu;rcases hu with rfl|rfl<;>rfl) (by decide) M1.out M2.out M3.out _ rfl ?_
     intro g5 c5 w9 own5 gr5 hat5 hlt5
     have hZ1:Below w6.heap.size w6 (w6.alloc (.cells #[.slice pa pn pc,.slice va vn vc] 73)):=(Below.refl _ _).alloc (Nat.le_refl _) _
     have hK9:Keep (fun k=>k≠g2) w6 w9:=((Keep.of_below hZ1:Keep (fun _=>True) _ _).mono fun _ _=>trivial).trans ((Keep.grown gr5).mono fun k hk e=>hk (by cases e;rfl))
     have hS5:∀k,(Value.slice (some ⟨g5,0,none⟩) (T.length+1) c5).ownBlock=some k->wa.heap.size<=k:=fun k hk=>by
      obtain rfl:g5=k:=by simpa[Value.ownBlock]using hk
      rcases hat5 with e|e
      ·cases e;exact HG2.out
      ·have:=hZ1.size;have:=HI6.out.k.size;have:=HB2.out.size;omega
     have hF9:zCP w9 w2.heap.size (fun k=>wa.heap.size<=k) (.slice (some ⟨g5,0,none⟩) (T.length+1) c5) (T++[F[q]]):=zCP.snoc HO.out HE.out HC6.out hZ1 gr5 own5 hS5
     have hA9:=HA6.out.keep (hK9.block _ HA6.out.lt (show ab≠g2 by have:=HG2.out;have:=HSA.out;omega))
     have hlt9:=hA9.lt
     obtain⟨x0,x1,x2,x3,x4,xf⟩:=hA9.cells
     have xf4:=xf 4
     obtain⟨wA,hwA⟩:=exq (w9.setCell ⟨ab,4,none⟩ (.slice (some ⟨g5,0,none⟩) (T.length+1) c5))
     have kA:Keep (fun k=>k≠ab) w9 wA:=by rw[hwA];exact Keep.set w9 _ 4 _
     have HAI:=hid (show AskI w wa w2 ab (.slice a n cap) (.slice a2 n2 cap2) F (q+1) wA from by
      have hk:Keep (fun k=>k≠ab∧k≠g2) w6 wA:=(hK9.mono fun k h=>h.2).trans (kA.mono fun k h=>h.1)
      have h1:=HRAB.out
      have h2:=HRB.out
      have h3:=HSA.out
      have h4:=HG2.out
      have h5:=HG3.out
      refine⟨hk.below HI6.out.b HI6.out.b.size fun k hk=>⟨by omega,by omega⟩,HI6.out.k.trans (hk.mono fun k h=>⟨h.2,by omega⟩),.slice (some ⟨g5,0,none⟩) (T.length+1) c5,?_,?_,?_⟩
      ·rw[HES.out,hwA];exact hA9.setC _
      ·rw[HES.out];exact hF9.keep kA fun b hb _=>⟨by have:wa.heap.size<=b:=hb;omega,hb⟩
      ·rw[HES.out];intro h;simp at h)
     have HWA:=hid hwA
     clear own5 gr5 hat5 hlt5 hZ1 hK9 hS5 hF9 hA9 xf hwA kA hi0 hz0 hz1 hz2 r0 r1 r2 r3 r4 c0 c1 c2 c3 c4 d0 d1
     go_wp2
     rw[<- HWA.out]
     exact⟨⟨q+1,by omega,by go_num,HAI.out⟩,by simp[intOf];omega⟩
    ·have HC1:=hid hc1
     go_wp2
     refine⟨⟨q+1,by omega,by go_num,HI6.out.next ?_⟩,by simp[intOf];omega⟩
     rw[HST.out,if_neg (fun h=>h.elim HT0.out HC0.out),if_neg HC1.out,HS.out,HT.out]
  ·obtain rfl:q=F.length:=by omega
   obtain⟨v,hA,hFv,hv0⟩:=hI.o
   rw[List.take_length]at hA hFv hv0
   have hrb2:rb<w2.heap.size:=by have:=HRAB.out;have:=HSA.out;have:=HB2.out.size;omega
   have hRB:=((HRA.out.keep (HB2.out.block _ HRA.out.lt)).keep (hI.k.block _ hrb2 ⟨hrb2,by have:=HRAB.out;omega⟩))
   have i0:¬(F.length:Int)<(F.length:Int):=by omega
   have HA:=hid hA
   have HFV:=hid hFv
   have HRR:=hid hRB
   have HI:=hid hI
   have heq:=fun(w:World) (a:Option Addr) (n c:Nat)=>Lib.run_eql_slice_nil (P:=Tryz.prog) w 87 73 a n c 0 0 Tryz.underlying87
   obtain⟨c0,c1,c2,c3,c4,cf⟩:=hA.cells
   obtain⟨b0,b1,b2,b3,b4,bf⟩:=hRB.cells
   have g0:=bf 0
   have g1:=bf 1
   have g2:=bf 2
   have g3:=bf 3
   have g4:=bf 4
   have hrl:=hRB.lt
   by_cases hF0:F=[]
   ·have e0:=HSF.out.1 hF0
    rw[e0]at hv0
    have hvn:=hv0 rfl
    subst hvn
    have HF0:=hid hF0
    obtain⟨W5,hW5⟩:=exq (set5 wr rb (.slice none 0 0) (.slice none 0 0) (0,0) (.slice none 0 0))
    have HA5:=hid (show AnsB W5 rb (.slice none 0 0) (.slice none 0 0) (0,0) (.slice none 0 0)by rw[hW5];exact hRB.set5)
    have HB5:=hid (show Below w.heap.size w W5 by rw[hW5];exact(zME wr rb _ _ _ _).below hI.b hI.b.size fun k hk=>by have:=HRB.out;omega)
    have HW5:=hid (show W5=((((wr.setCell ⟨rb,0,none⟩ (.slice none 0 0)).setCell ⟨rb,1,none⟩ (.slice none 0 0)).setCell ⟨rb,2,none⟩ (.int .i64 0)).setCell ⟨rb,3,none⟩ (.int .i64 0)).setCell ⟨rb,4,none⟩ (.slice none 0 0)from hW5)
    clear hW5 hA hRB hI hFv hv0 hF0 cf bf e0
    go_wp2
    rw[<- HW5.out]
    obtain⟨g0,g1,g2,g3,g4,_⟩:=HA5.out.cells
    refine bodyPost_ret (v:=.tuple #[.agg #[.slice none 0 0,.slice none 0 0,.int .i64 0,.int .i64 0,.slice none 0 0],.int .i64 10]) ?_ rfl (HP0.out _ _ HB5.out HF0.out rfl)
    simp[results,Tryz.results73,go_sem,g0,g1,g2,g3,g4]
   ·obtain⟨hTne,_,_,hTf⟩:=HSF.out.2 hF0
    obtain⟨T,hT⟩:=exq ((zBL F).2)
    obtain⟨s,hs⟩:=exq ((zBL F).1)
    rw[<- hT]at hTne hTf hFv hv0
    rw[<- hs]at hA
    have hnd:(T.map (·.1)).Nodup:=by
     rw[hTf]
     exact List.Nodup.sublist (List.filter_sublist.map _) HND.out
    have hTl:T.length<=100000:=by
     rw[hTf]
     have h1:=List.length_filter_le (fun f=>decide (zBA f=(zBL F).1)) F
     have h2:=HLN.out
     omega
    obtain⟨g,kap,rfl,hgS⟩:∃g kap,v=.slice (some ⟨g,0,none⟩) T.length kap∧wa.heap.size<=g:=by
     obtain⟨xs,ho,hg,_⟩:=hFv
     rcases ho.2 with⟨_,h⟩|⟨g,kap,cur,h,_⟩
     ·exact absurd (List.length_eq_zero_iff.1 h) hTne
     ·exact⟨g,kap,h,hg g (by rw[h];rfl)⟩
    have HSO:=hid (sortFits_c wr g kap w2.heap.size (fun k=>wa.heap.size<=k) T hTne hFv hnd hTl)
    have HSP:=hid (zJU hnd).2.length_eq
    have HF0:=hid hF0
    have HT:=hid hT
    have HS:=hid hs
    have HA:=hid hA
    have HGS:=hid hgS
    rw[<- hs]at c2 c3
    clear hTne hTf hT hs hnd hTl hFv hv0 hA hRB hI hF0 cf bf g0 g1 g2 g3 g4 hrl b0 b1 b2 b3 b4
    go_wp2_with (go_at_call 137;refine HSO.out.mono ?_;rintro e w7 ⟨rfl,hk7,hfa7⟩;refine Stop.of ?_)
    refine Stop.go ?_
    have hsa:=HSA.out
    have hgs:=HGS.out
    have hrab:=HRAB.out
    have hA7:=HA.out.keep (hk7.block _ HA.out.lt (show ab≠g by omega))
    have hR7:=HRR.out.keep (hk7.block _ HRR.out.lt (show rb≠g by omega))
    clear c0 c1 c2 c3 c4
    obtain⟨c0,c1,c2,c3,c4,cf⟩:=hA7.cells
    obtain⟨b0,b1,b2,b3,b4,bf⟩:=hR7.cells
    have g0:=bf 0
    have g1:=bf 1
    have g2:=bf 2
    have g3:=bf 3
    have g4:=bf 4
    have hrl:=hR7.lt
    obtain⟨W5,hW5⟩:=exq (set5 w7 rb (.slice a n cap) (.slice a2 n2 cap2) s (.slice (some ⟨g,0,none⟩) T.length kap))
    have HA5:=hid (show AnsB W5 rb (.slice a n cap) (.slice a2 n2 cap2) s (.slice (some ⟨g,0,none⟩) T.length kap)by rw[hW5];exact hR7.set5)
    have hk5:Keep (fun k=>k≠rb) w7 W5:=by rw[hW5];exact zME w7 rb _ _ _ _
    have HB5:=hid (show Below w.heap.size w W5 from((hk7.mono fun k (h:k≠g∧k≠rb)=>h.1).trans (hk5.mono fun k h=>h.2)).below HI.out.b HI.out.b.size fun k hk=>by have:=HRB.out;exact⟨by omega,by omega⟩)
    have HFA:=hid (hfa7 W5 (hk5.mono fun k hk=>by
     rcases hk with h|h
     ·omega
     ·have h':wa.heap.size<=k:=h
      omega))
    have HW5:=hid (show W5=((((w7.setCell ⟨rb,0,none⟩ (.slice a n cap)).setCell ⟨rb,1,none⟩ (.slice a2 n2 cap2)).setCell ⟨rb,2,none⟩ (.int .i64 s.1)).setCell ⟨rb,3,none⟩ (.int .i64 s.2)).setCell ⟨rb,4,none⟩ (.slice (some ⟨g,0,none⟩) T.length kap)from hW5)
    clear hW5 hA7 hR7 cf bf hk7 hfa7 hk5 hsa hgs hrab
    go_wp2
    rw[<- HW5.out]
    obtain⟨x0,x1,x2,x3,x4,_⟩:=HA5.out.cells
    have hfin:=HP1.out (some ⟨g,0,none⟩) kap (.returned (.tuple #[.agg #[.slice a n cap,.slice a2 n2 cap2,.int .i64 s.1,.int .i64 s.2,.slice (some ⟨g,0,none⟩) T.length kap],.int .i64 0])) W5 HB5.out HF0.out (by rw[<- HT.out,<- HS.out,HSP.out]) (by rw[<- HT.out];exact HFA.out)
    refine bodyPost_ret (v:=.tuple #[.agg #[.slice a n cap,.slice a2 n2 cap2,.int .i64 s.1,.int .i64 s.2,.slice (some ⟨g,0,none⟩) T.length kap],.int .i64 0]) ?_ rfl hfin
    simp[results,Tryz.results73,go_sem,x0,x1,x2,x3,x4]
theorem zPS(w:World)(a a2:Option Addr)(n cap n2 cap2:Nat)(M:Mask)(Y:List Int)(hn:M.length=n)(hn2:Y.length=n2)(hm:n<=maxLen)(hm2:n2<=maxLen)(H:zAN w a M)(H2:zAI w a2 Y):
 Calls Tryz.prog 73 #[.slice a n cap,.slice a2 n2 cap2] w (zKQ w (.slice a n cap) (.slice a2 n2 cap2) M Y):=by
 by_cases h0:zAU M Y []=0
 ·exact asked_ok (fun w n d h1 h2=>zOU w n d h1 h2) w a a2 n cap n2 cap2 M Y hn hn2 hm hm2 H H2 h0
 ·exact asked_err w a a2 n cap n2 cap2 M Y hn hn2 hm hm2 H H2 h0
end
section
open Go.RowKit
def valE(M:Mask)(Y:List Int):Rt×Int:=if zAU M Y []≠0 then((0,0),zAU M Y [])else if zBM M Y 10=[]then((0,0),10)else(valF M Y,0)
theorem asked_v(w:World)(a a2:Option Addr)(n cap n2 cap2:Nat)(M:Mask)(Y:List Int)(hn:M.length=n)(hn2:Y.length=n2)(hm:n<=maxLen)(hm2:n2<=maxLen)(H:zAN w a M)(H2:zAI w a2 Y):
 Calls Tryz.prog 73 #[.slice a n cap,.slice a2 n2 cap2] w (fun e w'=>Below w.heap.size w w'∧∃p1 p2 p3 q1 q2 q3 s1 s2 s3,e=.returned (.tuple #[.agg #[.slice p1 p2 p3,.slice q1 q2 q3,.int .i64 (valE M Y).1.1,.int .i64 (valE M Y).1.2,.slice s1 s2 s3],.int .i64 (valE M Y).2])):=by
 refine(zPS w a a2 n cap n2 cap2 M Y hn hn2 hm hm2 H H2).mono ?_
 rintro e w' ⟨hb,⟨h0,he⟩|⟨h0,h1,he⟩|⟨h0,h1,ca,c,he,_⟩⟩
 ·exact⟨hb,_,_,_,_,_,_,_,_,_,by rw[he];unfold valE;rw[if_pos h0]⟩
 ·exact⟨hb,_,_,_,_,_,_,_,_,_,by rw[he];unfold valE;rw[if_neg (fun h=>h h0),if_pos h1]⟩
 ·exact⟨hb,_,_,_,_,_,_,_,_,_,by rw[he];unfold valE;rw[if_neg (fun h=>h h0),if_neg h1]⟩
theorem dvalue_c(w:World)(a a2:Option Addr)(n cap n2 cap2:Nat)(M:Mask)(Y:List Int)(hn:M.length=n)(hn2:Y.length=n2)(hm:n<=maxLen)(hm2:n2<=maxLen)(H:zAN w a M)(H2:zAI w a2 Y):
 Calls Tryz.prog 19 #[.slice a n cap,.slice a2 n2 cap2] w fun e w'=>e=.returned (.tuple #[ratV (valE M Y).1,.int .i64 (valE M Y).2])∧Below w.heap.size w w':=by
 obtain⟨rb,hrb⟩:=exq (w.heap.size)
 obtain⟨wz,hwz⟩:=exq (w.alloc (.cells #[.int .i64 0,.int .i64 0] 29))
 have hbz:Below w.heap.size w wz:=by rw[hwz];exact(Below.refl _ _).alloc (Nat.le_refl _) _
 have hrz:RatI wz rb (0,0):=by rw[hwz,hrb];exact RatI.made w (0,0)
 have HC:=hid (asked_v wz a a2 n cap n2 cap2 M Y hn hn2 hm hm2 (H.below hbz) (H2.below hbz))
 obtain⟨r,hr⟩:=exq ((valE M Y).1)
 obtain⟨E,hE⟩:=exq ((valE M Y).2)
 rw[<- hr,<- hE]at HC⊢
 have HRZ:=hid hrz
 have HBZ:=hid hbz
 have HWZ:=hid hwz
 clear hn hn2 H H2 hr hE hrz hbz hwz
 have HRB:=hid hrb
 go_enter Tryz.func19,Tryz.ntmps19
 go_upto_region 1 with fail
 rw[<- hrb,<- HWZ.out]
 clear hrb
 go_upto_region 2 with (go_at_call 73;refine HC.out.mono ?_;rintro e w1 ⟨hb1,p1,p2,p3,q1,q2,q3,s1,s2,s3,rfl⟩;have HB1:=hid hb1;clear hb1;refine Stop.of ?_)
 refine Stop.go ?_
 go_upto_region 2 with fail
 obtain⟨ab,hab⟩:=exq (w1.heap.size)
 obtain⟨wa,hwa⟩:=exq (w1.alloc (.cells #[.slice p1 p2 p3,.slice q1 q2 q3,.int .i64 r.1,.int .i64 r.2,.slice s1 s2 s3] 89))
 rw[<- hab,<- hwa]
 have A0:AnsB wa ab (.slice p1 p2 p3) (.slice q1 q2 q3) r (.slice s1 s2 s3):=by rw[hwa,hab];exact World.alloc_heap_new _ _
 have hba:Below wz.heap.size wz wa:=by rw[hwa];exact HB1.out.alloc HB1.out.size _
 have hR:=HRZ.out.keep (hba.block _ HRZ.out.lt)
 obtain⟨c0,c1,c2,c3,c4,cf⟩:=A0.cells
 obtain⟨r0,r1,r2,r3,r4⟩:=hR.cells
 have X1:=hid (RatI.set (p:=r) hR)
 have X2:=hid ((zBJ wa rb (.int .i64 r.1) (.int .i64 r.2)).below (zAA HBZ.out hba) (Nat.le_trans HBZ.out.size hba.size) (fun k hk=>by have:=HRB.out;show k≠rb;omega))
 clear cf A0 hba hR hab hwa
 go_wp2
 clear c0 c1 c2 c3 c4 r0 r1 r2 r3 r4
 generalize (wa.setCell ⟨rb,0,none⟩ (.int .i64 r.1)).setCell ⟨rb,1,none⟩ (.int .i64 r.2)=WF at X1 X2⊢
 obtain⟨t0,t1,t2,t3,t4⟩:=X1.out.cells
 refine bodyPost_ret (v:=.tuple #[.agg #[.int .i64 r.1,.int .i64 r.2],.int .i64 E]) ?_ rfl ⟨rfl,X2.out⟩
 simp[results,Tryz.results19,go_sem,t0,t1,t2,t3,t4]
end
section
theorem zIB{M:Mask}{y:List Int}(h:rdE M y=0):(zBM M y 10=[]∧valE M y=((0,0),10))∨(zBM M y 10≠[]∧valE M y=(valF M y,0)∧OptN M y (valF M y)):=by
 obtain⟨h1,h2,h3⟩:=zHV h
 have h0:zAU M y []=0:=by rw[<- zIJ];exact h
 unfold valE
 rw[if_neg (fun k=>k h0)]
 by_cases e:zBM M y 10=[]
 ·exact .inl ⟨e,by rw[if_pos e]⟩
 ·exact .inr ⟨e,by rw[if_neg e],opt_of_fits h1 h2 h3 e⟩
theorem val_ok{M:Mask}{y:List Int}(h:rdE M y=0)(hv:(valE M y).2=0):valE M y=(valF M y,0)∧OptN M y (valF M y):=by
 rcases zIB h with⟨_,e⟩|⟨_,e,k⟩
 ·rw[e]at hv;cases hv
 ·exact⟨e,k⟩
theorem val_of{M:Mask}{y:List Int}(h:rdE M y=0){l:Nat->Int}{D:Int}(hs:SolM M (zAC M) y l D):(valE M y).2=0:=by
 obtain⟨h1,h2,h3⟩:=zHV h
 rcases zIB h with⟨e,_⟩|⟨_,e,_⟩
 ·exact absurd e ((fits_iff h1 h2 h3).2 ⟨l,D,hs⟩)
 ·rw[e]
end
section
theorem zOZ{n d:Int}{v:Rt}(hd:0<d)(hv:zAH v=true):(zAR n d=v)↔n*v.2=v.1*d:=by
 have h1:=zAW.1 hv
 constructor
 ·intro h
  obtain⟨g,a,b,e,hg,hb,e1,e2,_⟩:=zFV (n:=n) hd
  rw[e]at h
  subst h
  show n*b=a*d
  rw[e1,e2];grind
 ·intro h
  have h2:=lowV_congr (n:=n) (d:=d) (m:=v.1) (e:=v.2) hd (by omega) h
  have h3:zAR v.1 v.2=v:=zFB (by omega)
  unfold lowV at h2
  rw[h3,if_pos hv]at h2
  split at h2
  ·exact Option.some.inj h2
  ·cases h2
def zDK(M:Mask)(y:List Int)(x:List Rt):Bool×Int:=
 if okM M=true∧x.all zAH=true then
  (if x.length=zAC M then(if (valE M y).2=0 then(zCF M x y&&decide ((nrmQ x).1*(valE M y).1.2=(valE M y).1.1*(nrmQ x).2),0)else(false,(valE M y).2))else(false,9))
 else(false,1)
theorem zJR{M:Mask}{y:List Int}(h:(valE M y).2=0):rdE M y=0∧OptN M y (valE M y).1:=by
 have h0:rdE M y=0:=by
  rw[zIJ]
  refine Classical.byContradiction fun k=>?_
  unfold valE at h
  rw[if_pos k]at h
  exact k h
 obtain⟨e,k⟩:=val_ok h0 h
 exact⟨h0,by rw[e];exact k⟩
end
section
def zMC(n:Nat)(S:List Int)(V:List Rt):Nat->List Rt
 |0=>List.replicate n (0,1)
 |k+1=>(zMC n S V k).set (S[k]?.getD 0).toNat (zAB V k)
def sprF(n:Nat)(f:FitT):List Rt:=zMC n f.1 f.2 f.1.length
theorem zIE(n:Nat)(S:List Int)(V:List Rt):∀k,(zMC n S V k).length=n
 |0=>by simp[zMC]
 |k+1=>by show((zMC n S V k).set _ _).length=n;rw[List.length_set];exact zIE n S V k
theorem zFZ(n:Nat)(f:FitT):(sprF n f).length=n:=zIE _ _ _ _
theorem ratAt_set(l:List Rt)(i j:Nat)(v:Rt):zAB (l.set i v) j=if i=j∧i<l.length then v else zAB l j:=by
 unfold zAB
 rw[List.getElem?_set]
 by_cases e:i=j
 ·subst e
  by_cases h:i<l.length
  ·rw[if_pos rfl,if_pos h,if_pos ⟨rfl,h⟩];rfl
  ·rw[if_pos rfl,if_neg h,if_neg (fun c=>h c.2)]
   rw[List.getElem?_eq_none (by omega)]
 ·rw[if_neg e,if_neg (fun c=>e c.1)]
theorem ratAt_rep(n j:Nat):zAB (List.replicate n (0,1)) j=(0,1):=by
 unfold zAB
 by_cases h:j<n
 ·rw[List.getElem?_replicate,if_pos h];rfl
 ·rw[List.getElem?_eq_none (by simp;omega)];rfl
theorem sprTo_in{n:Nat}{S:List Int}{V:List Rt}(hS:zCL n S):∀k,k<=S.length->∀i (hi:i<S.length),i<k->zAB (zMC n S V k) (S[i]).toNat=zAB V i
 |0,_,i,hi,h=>by omega
 |k+1,hk,i,hi,h=>by
  have ek:S[k]?.getD 0=S[k]'(by omega):=by rw[List.getElem?_eq_getElem (show k<S.length by omega)];rfl
  show zAB ((zMC n S V k).set (S[k]?.getD 0).toNat (zAB V k)) (S[i]).toNat=_
  rw[ratAt_set,zIE,ek]
  have b1:=hS.get hi
  have b2:=hS.get (show k<S.length by omega)
  by_cases e:i=k
  ·subst e
   rw[if_pos ⟨rfl,by omega⟩]
  ·rw[if_neg (fun c=>e ?_)]
   ·exact sprTo_in hS k (by omega) i hi (by omega)
   ·have h1:=c.1
    exact hS.inj hi (show k<S.length by omega) (by omega)
theorem sprTo_out{n:Nat}{S:List Int}{V:List Rt}(hS:zCL n S){c:Nat}(hc:(c:Int)∉S):∀k,k<=S.length->zAB (zMC n S V k) c=(0,1)
 |0,_=>ratAt_rep n c
 |k+1,hk=>by
  have ek:S[k]?.getD 0=S[k]'(by omega):=by rw[List.getElem?_eq_getElem (show k<S.length by omega)];rfl
  show zAB ((zMC n S V k).set (S[k]?.getD 0).toNat (zAB V k)) c=_
  rw[ratAt_set,zIE,ek]
  have b2:=hS.get (show k<S.length by omega)
  rw[if_neg (fun e=>hc ?_)]
  ·exact sprTo_out hS hc k (by omega)
  ·have h1:=e.1
   have:(c:Int)=S[k]'(by omega):=by omega
   rw[this];exact List.getElem_mem _
theorem sprF_in{n:Nat}{f:FitT}(hS:zCL n f.1){i:Nat}(hi:i<f.1.length):zAB (sprF n f) (f.1[i]).toNat=zAB f.2 i:=sprTo_in hS _ (Nat.le_refl _) i hi hi
theorem sprF_out{n:Nat}{f:FitT}(hS:zCL n f.1){c:Nat}(hc:(c:Int)∉f.1):zAB (sprF n f) c=(0,1):=sprTo_out hS hc _ (Nat.le_refl _)
theorem zGO{M:Mask}{y:List Int}(hM:okM M=true)(hy:y.length=M.length)(hmil:milB y=true){f:FitT}(hf:f∈zBM M y 10):
 zCL (zAC M) f.1∧f.2.length=f.1.length∧(sprF (zAC M) f).all zAH=true∧(∀j,j<zAC M->((zAB (sprF (zAC M) f) j).1≠0↔(j:Int)∈f.1))∧
  ∃(l:Nat->Int) (D:Int),SolM M (zAC M) y l D∧(∀j,j<zAC M->(zAB (sprF (zAC M) f) j).1*D=l j*(zAB (sprF (zAC M) f) j).2)∧(nrmQ f.2).1*D=(nrmQ f.2).2*nrmI l (zAC M):=by
 obtain⟨hS,hlen,hval,hnz,hq,hvq,_,l,D,hl,_,h0,hv,hn⟩:=zEP hM hy hmil hf
 have hcase:∀c:Nat,c<zAC M->((c:Int)∉f.1∧zAB (sprF (zAC M) f) c=(0,1))∨∃i,∃hi:i<f.1.length,(f.1[i]).toNat=c∧(c:Int)∈f.1∧zAB (sprF (zAC M) f) c=zAB f.2 i:=fun c hc=>by
  by_cases hm:(c:Int)∈f.1
  ·obtain⟨i,hi,e⟩:=List.mem_iff_getElem.1 hm
   have e2:(f.1[i]).toNat=c:=by omega
   refine .inr ⟨i,hi,e2,hm,?_⟩
   have h:=sprF_in hS hi
   rw[e2]at h
   exact h
  ·exact .inl ⟨hm,sprF_out hS hm⟩
 refine⟨hS,hlen,?_,fun j hj=>?_,l,D,hl,fun j hj=>?_,hn⟩
 ·refine List.all_eq_true.2 fun r hr=>?_
  obtain⟨c,hc,rfl⟩:=List.mem_iff_getElem.1 hr
  have hc':c<zAC M:=by rw[zFZ]at hc;exact hc
  have e1:zAB (sprF (zAC M) f) c=(sprF (zAC M) f)[c]:=by unfold zAB;rw[List.getElem?_eq_getElem hc];rfl
  rw[<- e1]
  rcases hcase c hc' with⟨_,e⟩|⟨i,hi,_,_,e⟩
  ·rw[e];decide
  ·rw[e]
   have:zAB f.2 i=f.2[i]'(by omega):=by unfold zAB;rw[List.getElem?_eq_getElem (show i<f.2.length by omega)];rfl
   rw[this]
   exact List.all_eq_true.1 hval _ (List.getElem_mem _)
 ·rcases hcase j hj with⟨hm,e⟩|⟨i,hi,_,hm,e⟩
  ·rw[e];exact⟨fun h=>absurd rfl h,fun h=>absurd h hm⟩
  ·rw[e]
   refine⟨fun _=>hm,fun _=>?_⟩
   have:zAB f.2 i=f.2[i]'(by omega):=by unfold zAB;rw[List.getElem?_eq_getElem (show i<f.2.length by omega)];rfl
   rw[this]
   exact hnz _ (List.getElem_mem _)
 ·rcases hcase j hj with⟨hm,e⟩|⟨i,hi,e2,hm,e⟩
  ·rw[e,h0 j hj hm];simp
  ·rw[e,<- e2];exact hv i hi
theorem spr_makes{M:Mask}{y:List Int}(h:rdE M y=0){f:FitT}(hf:f∈zBM M y 10):zCF M (sprF (zAC M) f) y=true:=by
 obtain⟨hok,hy,hmil⟩:=zHV h
 obtain⟨_,_,hv,_,l,D,hl,hx,_⟩:=zGO hok hy hmil hf
 exact(zMT h (zFZ _ _) hv hl.1 hx).2 hl
theorem spr_norm{M:Mask}{y:List Int}(h:rdE M y=0){f:FitT}(hf:f∈zBM M y 10):zAR (nrmQ (sprF (zAC M) f)).1 (nrmQ (sprF (zAC M) f)).2=zBA f∧0<(nrmQ (sprF (zAC M) f)).2:=by
 obtain⟨hok,hy,hmil⟩:=zHV h
 obtain⟨_,_,hv,_,l,D,hl,hx,hn⟩:=zGO hok hy hmil hf
 obtain⟨hq,hvq⟩:=zHJ hok hy hmil f hf
 have hp:=zHA hv
 have h1:(nrmQ (sprF (zAC M) f)).1*D=(nrmQ (sprF (zAC M) f)).2*nrmI l (zAC M):=by
  have:=zEB hl.1 hp _ hx
  unfold nrmQ;rw[zFZ];exact this
 have hq2:0<(nrmQ (sprF (zAC M) f)).2:=(zEU hp _).1
 refine⟨(zOZ hq2 hvq).2 ?_,hq2⟩
 obtain⟨e,hp2⟩:=zMQ hq
 have hD:=hl.1
 -- n'*d=n*d',where n'/d' is the picture's norm
 have k1:(nrmQ (sprF (zAC M) f)).1*(nrmQ f.2).2=(nrmQ f.2).1*(nrmQ (sprF (zAC M) f)).2:=by
  have:(nrmQ (sprF (zAC M) f)).1*(nrmQ f.2).2*D=(nrmQ f.2).1*(nrmQ (sprF (zAC M) f)).2*D:=by
   have a1:(nrmQ (sprF (zAC M) f)).1*(nrmQ f.2).2*D=(nrmQ (sprF (zAC M) f)).1*D*(nrmQ f.2).2:=by grind
   have a2:(nrmQ f.2).1*(nrmQ (sprF (zAC M) f)).2*D=(nrmQ f.2).1*D*(nrmQ (sprF (zAC M) f)).2:=by grind
   rw[a1,a2,h1,hn];grind
  exact Int.eq_of_mul_eq_mul_right (by omega) this
 have:(nrmQ (sprF (zAC M) f)).1*(zBA f).2*(nrmQ f.2).2=(zBA f).1*(nrmQ (sprF (zAC M) f)).2*(nrmQ f.2).2:=by
  have a1:(nrmQ (sprF (zAC M) f)).1*(zBA f).2*(nrmQ f.2).2=(nrmQ (sprF (zAC M) f)).1*(nrmQ f.2).2*(zBA f).2:=by grind
  have a2:(zBA f).1*(nrmQ (sprF (zAC M) f)).2*(nrmQ f.2).2=(zBA f).1*(nrmQ f.2).2*(nrmQ (sprF (zAC M) f)).2:=by grind
  rw[a1,a2,k1,e];grind
 exact Int.eq_of_mul_eq_mul_right (by omega) this
theorem zPT{M:Mask}{y:List Int}(h:rdE M y=0){f:FitT}:f∈zKH M y↔f∈zBM M y 10∧zBA f=valF M y:=by
 obtain⟨hok,hy,hmil⟩:=zHV h
 have hv:=zHJ hok hy hmil
 obtain⟨s1,s2⟩:=zFR (zBM M y 10) (fun f hf=>(hv f hf).2)
 unfold zKH
 rw[(zJV _).mem_iff]
 by_cases e:zBM M y 10=[]
 ·rw[s1 e,e];simp
 ·rw[(s2 e).2.2.2,List.mem_filter,decide_eq_true_eq];rfl
theorem corn_ne{M:Mask}{y:List Int}(h:rdE M y=0)(hne:zBM M y 10≠[]):zKH M y≠[]:=by
 obtain⟨hok,hy,hmil⟩:=zHV h
 have hv:=zHJ hok hy hmil
 obtain⟨s1,s2⟩:=zFR (zBM M y 10) (fun f hf=>(hv f hf).2)
 intro e
 have hp:=(zJV (zBL (zBM M y 10)).2).length_eq
 unfold zKH at e
 rw[e]at hp
 exact(s2 hne).1 (List.length_eq_zero_iff.1 (by simpa using hp.symm))
theorem corn_least{M:Mask}{y:List Int}(h:rdE M y=0){f:FitT}(hf:f∈zKH M y):zDK M y (sprF (zAC M) f)=(true,0):=by
 obtain⟨hok,hy,hmil⟩:=zHV h
 obtain⟨hf1,hf2⟩:=(zPT h).1 hf
 obtain⟨_,_,hv,_,l,D,hl,_⟩:=zGO hok hy hmil hf1
 have hv0:=val_of h hl
 obtain⟨e,ho⟩:=val_ok h hv0
 obtain⟨hn,hq⟩:=spr_norm h hf1
 unfold zDK
 rw[if_pos ⟨hok,hv⟩,if_pos (zFZ _ _),if_pos hv0,spr_makes h hf1,e]
 simp only[Bool.true_and]
 rw[decide_eq_true]
 rw[hf2]at hn
 exact(zOZ hq ho.valid).1 hn
end
section
def zBZ(a b:Rt):Rt:=zAR (a.1*b.2+b.1*a.2) (2*(a.2*b.2))
def mixE(a b:List Rt):List Rt×Int:=
 if a.all zAH=true∧b.all zAH=true then
  (if a.length=b.length then(if (List.zipWith zBZ a b).all zAH=true then(List.zipWith zBZ a b,0)else([],4))else([],9))
 else([],1)
theorem zMU{M:Mask}{y:List Int}{x:List Rt}(h:zDK M y x=(true,0)):rdE M y=0∧zCF M x y=true∧x.length=zAC M∧x.all zAH=true∧OptN M y (valE M y).1∧(valE M y).2=0∧
 ∃(l:Nat->Int) (D:Int),SolM M (zAC M) y l D∧(∀k,k<zAC M->(zAB x k).1*D=l k*(zAB x k).2)∧(valE M y).1.1*D=nrmI l (zAC M)*(valE M y).1.2:=by
 unfold zDK at h
 split at h
 ·split at h
  ·split at h
   ·rename_i hv
    simp only[Prod.mk.injEq,Bool.and_eq_true,decide_eq_true_eq,and_true]at h
    obtain⟨hm,hq⟩:=h
    obtain⟨h1,h2,h3,l,D,hs,hx⟩:=zMS hm
    obtain⟨_,ho⟩:=zJR hv
    refine⟨h1,hm,h2,h3,ho,hv,l,D,hs,hx,?_⟩
    have hp:=zHA h3
    have hn:(nrmQ x).1*D=(nrmQ x).2*nrmI l (zAC M):=by unfold nrmQ;rw[h2];exact zEB hs.1 hp _ hx
    have hq2:0<(nrmQ x).2:=(zEU hp _).1
    have:(valE M y).1.1*D*(nrmQ x).2=nrmI l (zAC M)*(valE M y).1.2*(nrmQ x).2:=by
     have a1:(valE M y).1.1*D*(nrmQ x).2=(valE M y).1.1*(nrmQ x).2*D:=by grind
     have a2:nrmI l (zAC M)*(valE M y).1.2*(nrmQ x).2=(nrmQ x).2*nrmI l (zAC M)*(valE M y).1.2:=by grind
     rw[a1,a2,<- hq,<- hn];grind
    exact Int.eq_of_mul_eq_mul_right (by omega) this
   ·cases h
  ·cases h
 ·cases h
theorem least_of{M:Mask}{y:List Int}{x:List Rt}(hv0:(valE M y).2=0)(hm:zCF M x y=true)(hle:(nrmQ x).1*(valE M y).1.2<=(valE M y).1.1*(nrmQ x).2):zDK M y x=(true,0):=by
 obtain⟨h1,h2,h3,_⟩:=zMS hm
 obtain⟨hok,_⟩:=zHV h1
 obtain⟨_,ho⟩:=zJR hv0
 have h4:=(makes_le hm ho).1
 unfold zDK
 rw[if_pos ⟨hok,h3⟩,if_pos h2,if_pos hv0,hm]
 simp only[Bool.true_and]
 rw[decide_eq_true (by omega)]
theorem zip_at{a b:List Rt}(h:a.length=b.length){k:Nat}(hk:k<a.length):zAB (List.zipWith zBZ a b) k=zBZ (zAB a k) (zAB b k):=by
 unfold zAB
 rw[List.getElem?_zipWith,List.getElem?_eq_getElem hk,List.getElem?_eq_getElem (by omega)];rfl
theorem half_eq{a b:Rt}(ha:0<a.2)(hb:0<b.2):(zBZ a b).1*(2*(a.2*b.2))=(a.1*b.2+b.1*a.2)*(zBZ a b).2∧0<(zBZ a b).2:=by
 have hd:0<2*(a.2*b.2):=Int.mul_pos (by decide) (Int.mul_pos ha hb)
 obtain⟨g,p,q,e,hg,hq,e1,e2,_⟩:=zFV (n:=a.1*b.2+b.1*a.2) hd
 unfold zBZ
 rw[e]
 refine⟨?_,hq⟩
 show p*(2*(a.2*b.2))=(a.1*b.2+b.1*a.2)*q
 rw[e1,e2];grind
theorem mix_least{M:Mask}{y:List Int}{a b h:List Rt}(ha:zDK M y a=(true,0))(hb:zDK M y b=(true,0))(hm:mixE a b=(h,0)):zDK M y h=(true,0):=by
 obtain⟨h0,ma,la,va,ho,hv0,l,D,hl,hxl,nl⟩:=zMU ha
 obtain⟨_,mb,lb,vb,_,_,m,E,hk,hxm,nm⟩:=zMU hb
 have hlen:a.length=b.length:=by omega
 unfold mixE at hm
 rw[if_pos ⟨va,vb⟩,if_pos hlen]at hm
 split at hm
 ·rename_i hva
  obtain rfl:List.zipWith zBZ a b=h:=(Prod.mk.inj hm).1
  have pD:=hl.1
  have pE:=hk.1
  have pa:=zHA va
  have pb:=zHA vb
  have hcl:(List.zipWith zBZ a b).length=zAC M:=by rw[List.length_zipWith];omega
  have hsol:SolM M (zAC M) y (fun j=>E*l j+D*m j) (2*(D*E)):=by
   refine⟨Int.mul_pos (by decide) (Int.mul_pos pD pE),fun q hq=>?_⟩
   have e1:=hl.2 q hq
   have e2:=hk.2 q hq
   rw[zAL (g:=fun i=>E*(rowv M q i*l i)+D*(rowv M q i*m i)) (fun i _=>by grind),zHP,zCZ,zCZ,e1,e2]
   grind
  have hx:∀k,k<zAC M->(zAB (List.zipWith zBZ a b) k).1*(2*(D*E))=(E*l k+D*m k)*(zAB (List.zipWith zBZ a b) k).2:=fun k hk=>by
   rw[zip_at hlen (by omega)]
   obtain⟨h1,h2⟩:=half_eq (pa k) (pb k)
   have e1:=hxl k hk
   have e2:=hxm k hk
   have p1:=pa k
   have p2:=pb k
   generalize zAB a k=A at*
   generalize zAB b k=B at*
   generalize zBZ A B=H at*
   have pp:0<A.2*B.2:=Int.mul_pos p1 p2
   have:H.1*(2*(D*E))*(A.2*B.2)=(E*l k+D*m k)*H.2*(A.2*B.2):=by
    have a1:H.1*(2*(D*E))*(A.2*B.2)=H.1*(2*(A.2*B.2))*(D*E):=by grind
    have a2:(E*l k+D*m k)*H.2*(A.2*B.2)=(E*(l k*A.2)*B.2+D*(m k*B.2)*A.2)*H.2:=by grind
    rw[a1,a2,h1,<- e1,<- e2];grind
   exact Int.eq_of_mul_eq_mul_right (by omega) this
  have hmk:zCF M (List.zipWith zBZ a b) y=true:=(zMT h0 hcl hva hsol.1 hx).2 hsol
  refine least_of hv0 hmk ?_
  have hp:=zHA hva
  have hn:(nrmQ (List.zipWith zBZ a b)).1*(2*(D*E))=(nrmQ (List.zipWith zBZ a b)).2*nrmI (fun j=>E*l j+D*m j) (zAC M):=by
   have h1:=zEB hsol.1 hp _ hx
   unfold nrmQ;rw[hcl];exact h1
  have hq:0<(nrmQ (List.zipWith zBZ a b)).2:=(zEU hp _).1
  have h3:=nrmI_add (fun j=>E*l j) (fun j=>D*m j) (zAC M)
  have h4:=zKB E l (zAC M)
  have h5:=zKB D m (zAC M)
  have h6:((E.natAbs:Nat):Int)=E:=by omega
  have h7:((D.natAbs:Nat):Int)=D:=by omega
  rw[h6]at h4
  rw[h7]at h5
  rw[h4,h5]at h3
  have pv:=ho.pos
  generalize nrmI (fun j=>E*l j+D*m j) (zAC M)=S at*
  generalize nrmI l (zAC M)=P at*
  generalize nrmI m (zAC M)=Q at*
  generalize nrmQ (List.zipWith zBZ a b)=N at*
  generalize (valE M y).1=v at*
  have k1:N.1*v.2*(2*(D*E))<=v.1*N.2*(2*(D*E)):=by
   have a1:N.1*v.2*(2*(D*E))=N.2*v.2*S:=by
    have:N.1*v.2*(2*(D*E))=N.1*(2*(D*E))*v.2:=by grind
    rw[this,hn];grind
   have a2:v.1*N.2*(2*(D*E))=N.2*v.2*(E*P+D*Q):=by
    have:v.1*N.2*(2*(D*E))=N.2*(E*(v.1*D)+D*(v.1*E)):=by grind
    rw[this,nl,nm];grind
   rw[a1,a2]
   exact Int.mul_le_mul_of_nonneg_left h3 (by have:=Int.mul_pos hq pv;omega)
  exact Int.le_of_mul_le_mul_right k1 (Int.mul_pos (by decide) (Int.mul_pos pD pE))
 ·exact absurd (Prod.mk.inj hm).2 (by decide)
end
section
def zBO(M:Mask)(y:List Int):List (List Rt):=if (valE M y).2=0 then(zKH M y).map (sprF (zAC M))else []
theorem zLC{M:Mask}{y:List Int}(h:(valE M y).2=0):(zBO M y).length=(zKH M y).length:=by unfold zBO;rw[if_pos h,List.length_map]
def zBD(l:List (List Rt))(p:Nat):Nat->Rt×Rt
 |0=>((0,0),(0,0))
 |k+1=>(if k=0∨cmpF (zAB (l[k]?.getD []) p) (zBD l p k).1<0 then zAB (l[k]?.getD []) p else(zBD l p k).1,
   if k=0∨0<cmpF (zAB (l[k]?.getD []) p) (zBD l p k).2 then zAB (l[k]?.getD []) p else(zBD l p k).2)
def zDY(l:List (List Rt))(p:Nat):Rt×Rt:=zBD l p l.length
theorem zNT{l:List (List Rt)}{p:Nat}(hp:∀k:Nat,0<(zAB (l[k]?.getD []) p).2):∀k:Nat,0<k->
 (∃i,i<k∧(zBD l p k).1=zAB (l[i]?.getD []) p)∧(∃i,i<k∧(zBD l p k).2=zAB (l[i]?.getD []) p)∧
 ∀i,i<k->(zBD l p k).1.1*(zAB (l[i]?.getD []) p).2<=(zAB (l[i]?.getD []) p).1*(zBD l p k).1.2∧(zAB (l[i]?.getD []) p).1*(zBD l p k).2.2<=(zBD l p k).2.1*(zAB (l[i]?.getD []) p).2
 |0,h=>by omega
 |k+1,_=>by
  have e:zBD l p (k+1)=(if k=0∨cmpF (zAB (l[k]?.getD []) p) (zBD l p k).1<0 then zAB (l[k]?.getD []) p else(zBD l p k).1,
   if k=0∨0<cmpF (zAB (l[k]?.getD []) p) (zBD l p k).2 then zAB (l[k]?.getD []) p else(zBD l p k).2):=rfl
  by_cases h0:k=0
  ·subst h0
   rw[e]
   simp only[true_or,if_true]
   exact⟨⟨0,by omega,rfl⟩,⟨0,by omega,rfl⟩,fun i hi=>by
    have e0:i=0:=by omega
    subst e0
    exact⟨Int.le_refl _,Int.le_refl _⟩⟩
  ·obtain⟨⟨i1,hi1,e1⟩,⟨i2,hi2,e2⟩,hle⟩:=zNT hp k (by omega)
   have px:=hp k
   have p1:0<(zBD l p k).1.2:=by rw[e1];exact hp i1
   have p2:0<(zBD l p k).2.2:=by rw[e2];exact hp i2
   have c1:=zLS (r:=zAB (l[k]?.getD []) p) (s:=(zBD l p k).1) px p1
   have c2:0<cmpF (zAB (l[k]?.getD []) p) (zBD l p k).2↔(zBD l p k).2.1*(zAB (l[k]?.getD []) p).2<(zAB (l[k]?.getD []) p).1*(zBD l p k).2.2:=by
    rw[zLR px p2]
    unfold cmpI;split
    ·constructor
     ·intro h;omega
     ·intro h;omega
    ·split
     ·constructor
      ·intro h;omega
      ·intro h;omega
     ·constructor
      ·intro h;omega
      ·intro h;omega
   rw[e]
   simp only[h0,false_or]
   refine⟨?_,?_,fun i hi=>⟨?_,?_⟩⟩
   ·by_cases q:cmpF (zAB (l[k]?.getD []) p) (zBD l p k).1<0
    ·rw[if_pos q];exact⟨k,by omega,rfl⟩
    ·rw[if_neg q];exact⟨i1,by omega,e1⟩
   ·by_cases q:0<cmpF (zAB (l[k]?.getD []) p) (zBD l p k).2
    ·rw[if_pos q];exact⟨k,by omega,rfl⟩
    ·rw[if_neg q];exact⟨i2,by omega,e2⟩
   ·by_cases q:cmpF (zAB (l[k]?.getD []) p) (zBD l p k).1<0
    ·rw[if_pos q]
     by_cases ei:i=k
     ·subst ei;exact Int.le_refl _
     ·have h1:=(hle i (by omega)).1
      have h2:=c1.1 q
      have pi:=hp i
      generalize zAB (l[k]?.getD []) p=x at*
      generalize zAB (l[i]?.getD []) p=z at*
      generalize (zBD l p k).1=s at*
      have a1:x.1*z.2*s.2<=z.1*x.2*s.2:=by
       have b1:x.1*s.2*z.2<=s.1*x.2*z.2:=Int.mul_le_mul_of_nonneg_right (by omega) (by omega)
       have b2:s.1*z.2*x.2<=z.1*s.2*x.2:=Int.mul_le_mul_of_nonneg_right h1 (by omega)
       have c1':x.1*z.2*s.2=x.1*s.2*z.2:=by grind
       have c2':s.1*x.2*z.2=s.1*z.2*x.2:=by grind
       have c3':z.1*x.2*s.2=z.1*s.2*x.2:=by grind
       omega
      exact Int.le_of_mul_le_mul_right a1 p1
    ·rw[if_neg q]
     by_cases ei:i=k
     ·subst ei
      have h2:¬_:=fun h=>q (c1.2 h)
      omega
     ·exact(hle i (by omega)).1
   ·by_cases q:0<cmpF (zAB (l[k]?.getD []) p) (zBD l p k).2
    ·rw[if_pos q]
     by_cases ei:i=k
     ·subst ei;exact Int.le_refl _
     ·have h1:=(hle i (by omega)).2
      have h2:=c2.1 q
      have pi:=hp i
      generalize zAB (l[k]?.getD []) p=x at*
      generalize zAB (l[i]?.getD []) p=z at*
      generalize (zBD l p k).2=s at*
      have a1:z.1*x.2*s.2<=x.1*z.2*s.2:=by
       have b1:s.1*x.2*z.2<=x.1*s.2*z.2:=Int.mul_le_mul_of_nonneg_right (by omega) (by omega)
       have b2:z.1*s.2*x.2<=s.1*z.2*x.2:=Int.mul_le_mul_of_nonneg_right h1 (by omega)
       have c1':z.1*x.2*s.2=z.1*s.2*x.2:=by grind
       have c2':s.1*x.2*z.2=s.1*z.2*x.2:=by grind
       have c3':x.1*z.2*s.2=x.1*s.2*z.2:=by grind
       omega
      exact Int.le_of_mul_le_mul_right a1 p2
    ·rw[if_neg q]
     by_cases ei:i=k
     ·subst ei
      have h2:¬_:=fun h=>q (c2.2 h)
      omega
     ·exact(hle i (by omega)).2
def zHQ(M:Mask)(y:List Int)(p:Int):Rt×Rt×Int:=
 if zAU M y [p]≠0 then((0,0),(0,0),zAU M y [p])else if (valE M y).2≠0 then((0,0),(0,0),(valE M y).2)else((zDY (zBO M y) p.toNat).1,(zDY (zBO M y) p.toNat).2,0)
theorem zOK{M:Mask}{y:List Int}(h:rdE M y=0)(hv:(valE M y).2=0){x:List Rt}(hx:x∈zBO M y):zDK M y x=(true,0)∧∃f,f∈zBM M y 10∧x=sprF (zAC M) f:=by
 unfold zBO at hx
 rw[if_pos hv]at hx
 obtain⟨f,hf,rfl⟩:=List.mem_map.1 hx
 exact⟨corn_least h hf,f,((zPT h).1 hf).1,rfl⟩
theorem zOJ{M:Mask}{y:List Int}(h:rdE M y=0)(hv:(valE M y).2=0):zBO M y≠[]:=by
 rcases zIB h with⟨_,e⟩|⟨hne,_⟩
 ·rw[e]at hv;cases hv
 ·intro e
  have:=corn_ne h hne
  have h2:=zLC hv
  rw[e]at h2
  exact this (List.length_eq_zero_iff.1 h2.symm)
end
end Go.Proofs.YtlffndehhhpgjaaGreat
