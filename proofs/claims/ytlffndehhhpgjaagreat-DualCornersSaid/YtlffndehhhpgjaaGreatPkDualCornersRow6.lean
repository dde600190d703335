/- Walks and plain laws for DualCornersRow, part 6. -/
import Derived.Lib.SliceRun
import Derived.Maps.OwnIn
import Derived.Test.YtlffndehhhpgjaaGreatPkDualCornersRow5
namespace Go.Proofs.YtlffndehhhpgjaaGreat
set_option linter.unusedVariables false
set_option linter.unusedSimpArgs false
set_option maxRecDepth 100000
set_option maxHeartbeats 4000000
section
section
theorem zIK{a b c d:Int}(hb:0<b)(hd:0<d)(h:a*d=c*b):zAR a b=zAR c d:=by
 have g1:0<Int.gcd a b:=Nat.pos_of_ne_zero fun e=>by have:=(Int.gcd_eq_zero_iff.1 e).2;omega
 have g2:0<Int.gcd c d:=Nat.pos_of_ne_zero fun e=>by have:=(Int.gcd_eq_zero_iff.1 e).2;omega
 have k1:Int.gcd (a*d) (b*d)=Int.gcd a b*d.natAbs:=Int.gcd_mul_right _ _ _
 have k2:Int.gcd (c*b) (d*b)=Int.gcd c d*b.natAbs:=Int.gcd_mul_right _ _ _
 rw[h,Int.mul_comm b d,k2]at k1
 obtain⟨a1,ha⟩:=Int.gcd_dvd_left a b
 obtain⟨b1,hb1⟩:=Int.gcd_dvd_right a b
 obtain⟨c1,hc⟩:=Int.gcd_dvd_left c d
 obtain⟨d1,hd1⟩:=Int.gcd_dvd_right c d
 unfold zAR
 obtain⟨G,hG⟩:∃G:Int,G=((Int.gcd a b:Nat):Int):=⟨_,rfl⟩
 obtain⟨H,hH⟩:∃G:Int,G=((Int.gcd c d:Nat):Int):=⟨_,rfl⟩
 have k3:H*b=G*d:=by
  have:=congrArg (fun n:Nat=>(n:Int)) k1
  simp only[Int.natCast_mul]at this
  rw[<- hG,<- hH]at this
  rw[show((b.natAbs:Nat):Int)=b by omega,show((d.natAbs:Nat):Int)=d by omega]at this
  exact this
 rw[<- hG]at ha hb1⊢
 rw[<- hH]at hc hd1⊢
 have hG0:G≠0:=by omega
 have hH0:H≠0:=by omega
 have e1:b1=d1:=by
  rw[hb1,hd1]at k3
  have:(H*G)*b1=(H*G)*d1:=by grind
  exact Int.eq_of_mul_eq_mul_left (Int.mul_ne_zero hH0 hG0) this
 have hb10:b1≠0:=fun e=>by rw[e]at hb1;omega
 have e2:a1=c1:=by
  rw[ha,hd1,hc,hb1,<- e1]at h
  have:(G*H*b1)*a1=(G*H*b1)*c1:=by grind
  exact Int.eq_of_mul_eq_mul_left (Int.mul_ne_zero (Int.mul_ne_zero hG0 hH0) hb10) this
 rw[Int.tdiv_eq_of_eq_mul_left hG0 (c:=a1) (by rw[ha];exact Int.mul_comm _ _),Int.tdiv_eq_of_eq_mul_left hG0 (c:=b1) (by rw[hb1];exact Int.mul_comm _ _),
  Int.tdiv_eq_of_eq_mul_left hH0 (c:=c1) (by rw[hc];exact Int.mul_comm _ _),Int.tdiv_eq_of_eq_mul_left hH0 (c:=d1) (by rw[hd1];exact Int.mul_comm _ _),e1,e2]
end
section
section
open Go.RowKit
def SeenAt(w:World)(g0:Nat)(M:Mask)(W:Nat):Prop:=
 ∀i,i<M.length->∃gi x,w.cell? ⟨g0,i,none⟩=some (.slice (some ⟨gi,0,none⟩) (W+M.length) (W+M.length+x))∧g0<w.heap.size∧gi<w.heap.size∧zAI w (some ⟨gi,0,none⟩) ((RE M W)[i]?.getD [])∧((RE M W)[i]?.getD []).length=W+M.length
theorem SeenAt.below{w w':World}{g0:Nat}{M:Mask}{W:Nat}(h:SeenAt w g0 M W)(hb:Below w.heap.size w w'):SeenAt w' g0 M W:=by
 intro i hi
 obtain⟨gi,x,h1,h2,h3,h4,h5⟩:=h i hi
 exact⟨gi,x,(hb.cell (p:=⟨g0,i,none⟩) h2).trans h1,Nat.lt_of_lt_of_le h2 hb.size,Nat.lt_of_lt_of_le h3 hb.size,h4.below hb,h5⟩
end
section
open Go.RowKit
end
section
open Go.RowKit
end
section
open Go.RowKit
theorem clone_c(w:World)(a:Option Addr)(n cap:Nat)(l:List Int)(hn:l.length=n)(hm:n*8<=140737488355328)(H:zAI w a l):
 Calls Tryz.prog 231 #[.slice a n cap] w fun e w'=>∃v,e=.returned v∧w'.ownsRow w.heap.size 3 1 v n (l.map (Value.int .i64))∧Below w.heap.size w w':=by
 obtain⟨i0,hi,hz0,hz1,hz2⟩:=info_parts zEF
 have heq:=fun(w:World) (a:Option Addr) (n c:Nat)=>Lib.run_eql_slice_nil (P:=Tryz.prog) w 24 3 a n c 0 0 Tryz.underlying24
 cases a with
 |none=>
  have h0:n=0:=by
   rcases Nat.eq_zero_or_pos n with h|h
   ·exact h
   ·obtain⟨_,_,e,_⟩:=H 0 (by omega);cases e
  subst h0
  have hl:l=[]:=List.eq_nil_of_length_eq_zero hn
  subst hl
  clear hn H hm
  go_enter Tryz.func231,Tryz.ntmps231
  go_wp2
  go_ret
  exact⟨_,rfl,World.ownsRow_nil _ _ _ _,Below.refl _ _⟩
 |some ad=>
  have HN:=hid hn
  have hnews:∀j u,(l.map (Value.int .i64))[j]? =some u->(w.alloc (.cells #[] 3)).cell? (ad.add j)=some u:=by
   intro j u hu
   rw[List.getElem?_map]at hu
   obtain⟨x,hx,rfl⟩:=Option.map_eq_some_iff.1 hu
   obtain⟨hjl,e⟩:=List.getElem?_eq_some_iff.1 hx
   obtain⟨b,off,ea,hb,hc⟩:=H j hjl
   cases ea
   rw[Addr.add_lit]
   refine(((Below.refl _ w).alloc (Nat.le_refl _) (.cells #[] 3)).cell (p:=⟨b,off+j,none⟩) hb).trans ?_
   rw[hc,hx];rfl
  have HNews:=hid hnews
  clear hnews H hn
  go_enter Tryz.func231,Tryz.ntmps231
  go_wp2_with (at_builtin;refine wpList_append_own _ rfl _ _ 24 rfl w.heap.size 3 i0 (.int .i64 0) 1 8 Tryz.underlying24 hi hz0 hz1 hz2 rfl (by decide) _ 0 [] rfl (World.ownsRow_made _ _ 0 (Nat.le_refl _) (by unfold maxLen;omega) rfl) ad n cap (l.map (Value.int .i64)) rfl (by rw[List.length_map,HN.out];omega) HNews.out (zLO _) (by unfold maxLen;omega) (by omega) (by simp) ?_;intro v' w1 hown' hgrow _)
  go_ret
  refine⟨_,rfl,by simpa using hown',((Below.refl _ w).alloc (Nat.le_refl _) _).grown hgrow (by simp) (fun k hk=>by cases hk;exact Nat.le_refl _)⟩
end
section
open Go.RowKit
end
section
open Go.RowKit
end
end
end
section
open Go.RowKit
def PredQ(P:Program)(g:Nat)(lb:Array Value)(w:World)(p:Rt->Bool):Prop:=
 ∀(r:Rt) (W:World),Below w.heap.size w W->Calls P g (#[ratV r]++lb) W fun e W'=>e=.returned (.bool (p r))∧Below W.heap.size W W'
theorem indexQ(w:World)(a:Option Addr)(n cap:Nat)(l:List Rt)(hn:l.length=n)(hm:n<=maxLen)(H:zBE w a l)(g:Nat)(lb:Array Value)(p:Rt->Bool)(hp:PredQ Tryz.prog g lb w p)(eg:∀args w,(callFunc g args).run Tryz.prog w=.ok (.enter g args) w):
 Calls Tryz.prog 146 #[.slice a n cap,.func (.func g) #[] lb] w fun e w'=>e=.returned (.int .i64 (idxP p l 0))∧Below w.heap.size w w':=by
 have HN:=hid hn
 have HH:=hid H
 have HP:=hid hp
 clear hn H hp
 unfold maxLen at hm
 go_enter Tryz.func146,Tryz.ntmps146
 go_wp2
 go_loopw [8] (fun i wr=>∃k:Nat,k<=n∧i=.int .i64 k∧Below w.heap.size w wr∧∀i y,i<k->l[i]? =some y->p y=false) (fun i _=>n-(intOf i).toNat)
 case atStart=>exact⟨0,Nat.zero_le _,rfl,Below.refl _ _,fun i y h=>by omega⟩
 case round=>
  obtain⟨k,hk,rfl,hb,hno⟩:=hrel
  have HNO:=hid hno
  clear hno
  by_cases hlt:k<n
  ·have hkl:k<l.length:=by rw[HN.out];exact hlt
   obtain⟨b,off,rfl,hbs,h0,h1⟩:=(HH.out.below hb) k hkl
   have HK:=hid (List.getElem?_eq_getElem hkl)
   obtain⟨⟨r1,r2⟩,hr⟩:∃r,r=l[k]'hkl:=⟨_,rfl⟩
   rw[<- hr]at h0 h1 HK
   simp only[]at h0 h1
   have HC:=hid (HP.out (r1,r2) wr hb)
   obtain⟨B,hB⟩:=exq (p (r1,r2))
   rw[<- hB]at HC
   have HBB:=hid hB.symm
   clear hr hB hkl
   go_wp2_with (refine HC.out.mono ?_;rintro e w1 ⟨rfl,hb1⟩;refine Stop.of ?_)
   refine Stop.go ?_
   cases B
   ·go_wp2
    refine⟨⟨k+1,by omega,by go_num,zAA hb hb1,?_⟩,by simp[intOf];omega⟩
    intro i y hi hy
    by_cases e:i=k
    ·subst e;rw[HK.out]at hy;cases hy;exact HBB.out
    ·exact HNO.out i y (by omega) hy
   ·go_wp2
    go_ret
    refine⟨zDB ?_,zAA hb hb1⟩
    rw[zKF p l 0 k _ HK.out HBB.out HNO.out];simp
  ·go_wp2
   go_ret
   refine⟨zDB ?_,hb⟩
   rw[zHI]
   intro x hx
   obtain⟨i,hi,e⟩:=List.getElem_of_mem hx
   exact HNO.out i x (by have:=HN.out;omega) (by rw[List.getElem?_eq_getElem hi,e])
theorem containsQ(w:World)(a:Option Addr)(n cap:Nat)(l:List Rt)(hn:l.length=n)(hm:n<=maxLen)(H:zBE w a l)(g:Nat)(lb:Array Value)(p:Rt->Bool)(hp:PredQ Tryz.prog g lb w p)(eg:∀args w,(callFunc g args).run Tryz.prog w=.ok (.enter g args) w):
 Calls Tryz.prog 80 #[.slice a n cap,.func (.func g) #[] lb] w fun e w'=>e=.returned (.bool (l.any p))∧Below w.heap.size w w':=by
 have HC:=hid (indexQ w a n cap l hn hm H g lb p hp eg)
 have HG':=hid (zNA p l 0)
 clear hn H hp
 go_enter Tryz.func80,Tryz.ntmps80
 go_wp2_with (refine HC.out.mono ?_;rintro e w1 ⟨rfl,hb1⟩)
 go_ret
 refine⟨zAT ?_,hb1⟩
 rw[Bool.eq_iff_iff,decide_eq_true_iff,HG'.out]
theorem fit1(w:World):PredQ Tryz.prog 263 #[] w (fun r=>decide (r.1=0)):=by
 rintro⟨r1,r2⟩ W hb
 have hbz:Below W.heap.size W (W.alloc (.cells #[.int .i64 r1,.int .i64 r2] 29)):=(Below.refl _ _).alloc (Nat.le_refl _) _
 simp only[ratV]
 go_enter Tryz.func263,Tryz.ntmps263
 go_wp2
 go_ret
 exact⟨zAT (by rw[Bool.eq_iff_iff];simp),hbz⟩
theorem qpixels_c(w:World)(a a2:Option Addr)(n cap n2 cap2:Nat)(M:Mask)(hn:M.length=n)(h1:1<=n)(H:zAN w a M):
 Calls Tryz.prog 255 #[.agg #[.slice a n cap,.slice a2 n2 cap2]] w fun e w'=>e=.returned (.int .i64 (zAC M))∧Below w.heap.size w w':=by
 obtain⟨b,off,ra,rc,rfl,hb,hc⟩:=zEA H (by omega)
 have hbz:Below w.heap.size w (w.alloc (.cells #[.slice (some ⟨b,off,none⟩) n cap,.slice a2 n2 cap2] 216)):=(Below.refl _ _).alloc (Nat.le_refl _) _
 have hcz:=(hbz.cell (p:=⟨b,off,none⟩) hb).trans hc
 have i0:(0:Int)<(n:Int):=by omega
 obtain⟨W,hW⟩:=exq (zAC M)
 rw[<- hW]at hcz⊢
 have HB:=hid hbz
 clear hbz hc hb hn H hW
 go_enter Tryz.func255,Tryz.ntmps255
 go_wp2
 go_ret
 exact⟨rfl,HB.out⟩
def FitV(lo:Nat)(S:Nat->Prop)(f:FitT)(v:Value)(W:World):Prop:=
 ∃pa pn pc va vn vc,v=.agg #[.slice pa pn pc,.slice va vn vc]∧f.1.length=pn∧f.2.length=vn∧pn<=maxLen∧vn<=maxLen∧zAI W pa f.1∧zBE W va f.2∧
  (∀b o,pa=some ⟨b,o,none⟩->lo<=b∧b<W.heap.size∧¬S b∧∃c z,W.heap[b]? =some (.cells c 3 z))∧(∀b o,va=some ⟨b,o,none⟩->lo<=b∧b<W.heap.size∧¬S b∧∃c z,W.heap[b]? =some (.cells c 29 z))
def FitPost(o:Option FitT)(lo:Nat)(e:Ending)(w':World):Prop:=
 (o=none∧e=.returned (.tuple #[.agg #[.slice none 0 0,.slice none 0 0],.bool false]))∨(∃f v,o=some f∧e=.returned (.tuple #[v,.bool true])∧FitV lo (fun _=>False) f v w')
theorem zMO{w:World}{base:Nat}{T:TypeId}{k n:Nat}{a:Option Addr}{c:Nat}{xs:List Value}(h:w.ownsRow base T k (.slice a n c) n xs):∀b o,a=some ⟨b,o,none⟩->base<=b∧b<w.heap.size:=by
 rintro b o rfl
 rcases h.2 with⟨h1,_⟩|⟨g,cap,cur,h1,hbg,hgg,_⟩
 ·cases h1
 ·cases h1;exact⟨hbg,(Array.getElem?_eq_some_iff.1 hgg).1⟩
theorem own_typed{w:World}{base:Nat}{T:TypeId}{k n:Nat}{a:Option Addr}{c:Nat}{xs:List Value}(h:w.ownsRow base T k (.slice a n c) n xs):∀b o,a=some ⟨b,o,none⟩->∃c z,w.heap[b]? =some (.cells c T z):=by
 rintro b o rfl
 rcases h.2 with⟨h1,_⟩|⟨g,cap,cur,h1,hbg,hgg,_⟩
 ·cases h1
 ·cases h1;exact⟨_,_,hgg⟩
theorem fit_c(w:World)(a a2 a3:Option Addr)(n cap n2 cap2 n3 cap3:Nat)(M:Mask)(y S:List Int)(hn:M.length=n)(hn2:y.length=n2)(hn3:S.length=n3)(hm:n<=maxLen)(hm2:n2<=maxLen)(hm3:n3<=1000)(H:zAN w a M)(H2:zAI w a2 y)(H3:zAI w a3 S):
 Calls Tryz.prog 256 #[.agg #[.slice a n cap,.slice a2 n2 cap2],.slice a3 n3 cap3] w fun e w'=>FitPost (fitF M y S) w.heap.size e w'∧Below w.heap.size w w':=by
 obtain⟨wz,hwz⟩:=exq ((w.alloc (.cells #[.slice a n cap,.slice a2 n2 cap2] 216)).alloc (.cells #[.slice none 0 0,.slice none 0 0] 73))
 obtain⟨s0,hs⟩:=exq (w.heap.size)
 have hbz:Below w.heap.size w wz:=by rw[hwz];exact((Below.refl _ _).alloc (Nat.le_refl _) _).alloc (by simp) _
 have l0:wz.cell? ⟨s0,0,none⟩=some (.slice a n cap):=by rw[hwz,hs,World.cell?_alloc_past _ _ _ (by simp),World.cell?_alloc_at _ _ _ _ rfl];rfl
 have l1:wz.cell? ⟨s0,1,none⟩=some (.slice a2 n2 cap2):=by rw[hwz,hs,World.cell?_alloc_past _ _ _ (by simp),World.cell?_alloc_at _ _ _ _ rfl];rfl
 have q0:wz.heap[s0+1]? =some (.cells #[.slice none 0 0,.slice none 0 0] 73 (0,0)):=by
  have:=World.alloc_heap_new (w.alloc (.cells #[.slice a n cap,.slice a2 n2 cap2] 216)) (.cells #[.slice none 0 0,.slice none 0 0] 73)
  rw[hwz,hs];simpa using this
 have hs1:s0+1<wz.heap.size:=(Array.getElem?_eq_some_iff.1 q0).1
 have HSO:=hid (solve_c wz a a3 a2 n cap n3 cap3 n2 cap2 M S y hn hn3 hn2 hm (Nat.le_trans hm3 (by decide)) hm2 (H.below hbz) (H3.below hbz) (H2.below hbz))
 have HCL:=hid (fun(X:World) (hX:Below w.heap.size w X)=>clone_c X a3 n3 cap3 S hn3 (by omega) (H3.below hX))
 have HFC:=hid (fun(X:World) (va:Option Addr) (vc:Nat) (vl:List Rt) (hvm:vl.length<=maxLen) (hv:zBE X va vl)=>containsQ X va vl.length vc vl rfl hvm hv _ #[] _ (fit1 X) (enters_of Tryz.func263 (by kernel_rfl) rfl))
 have HFF:=hid (show fitF M y S=if (zCA M S y).2=0∧(zCA M S y).1.all (fun r=>decide (r.1≠0))=true then some (S,(zCA M S y).1)else none from rfl)
 obtain⟨F,hF⟩:=exq (fitF M y S)
 obtain⟨⟨V,E⟩,hVE⟩:∃V,V=zCA M S y:=⟨_,rfl⟩
 rw[<- hVE]at HSO HFF
 rw[<- hF]at HFF⊢
 simp only[]at HSO HFF
 have HB:=hid hbz
 have HQ:=hid (fun(X:World) (hX:Below wz.heap.size wz X)=>(hX.block _ hs1).trans q0)
 have HS:=hid hs
 have HN3:=hid hn3
 have hs1':=hid hs1
 clear hbz hn hn2 hn3 H H2 H3 hF hVE q0 hs1
 go_enter Tryz.func256,Tryz.ntmps256
 go_wp2_with fail
 rw[<- hs,<- hwz]
 clear hs hwz
 go_wp2_with (go_at_call 262;refine HSO.out.mono ?_;rintro e w1 ⟨v,base,rfl,hbs,hO,hb1⟩;refine Stop.of ?_)
 refine Stop.go ?_
 obtain⟨va,vc,rfl,hvm,hvr⟩:=hO.reads
 have HVB:=hid (zMO hO)
 have HVT:=hid (own_typed hO)
 have HVR:=hid hvr
 have HVM:=hid hvm
 have HB1:=hid hb1
 have HBS:=hid hbs
 clear hO hvr hvm hb1 hbs HSO l0 l1
 have hz:∀X:World,Below wz.heap.size wz X->X.cell? ⟨s0+1,0,none⟩=some (.slice none 0 0)∧X.cell? ⟨s0+1,1,none⟩=some (.slice none 0 0)∧X.frozen? ⟨s0+1,0,none⟩=false∧X.frozen? ⟨s0+1,1,none⟩=false∧s0+1<X.heap.size:=fun X hX=>by
  have h:=HQ.out X hX
  exact⟨by simp[World.cell?,h],by simp[World.cell?,h],by simp[World.frozen?,h],by simp[World.frozen?,h],(Array.getElem?_eq_some_iff.1 h).1⟩
 have HZ:=hid hz
 clear hz
 by_cases hE:E=0
 rotate_left
 ·obtain rfl:F=none:=by rw[HFF.out,if_neg (fun h=>hE h.1)]
  have hEb:(E !=0)=true:=by simpa using hE
  obtain⟨z0,z1,f0,f1,hlt⟩:=HZ.out _ HB1.out
  have HFI:=hid (show Below w.heap.size w ((w1.setCell ⟨s0+1,0,none⟩ (.slice none 0 0)).setCell ⟨s0+1,1,none⟩ (.slice none 0 0))from by
   have hg:w.heap.size<=s0+1:=by rw[HS.out];omega
   exact zAG (zAG (zAA HB.out HB1.out) hg _ _) hg _ _)
  go_wp2
  refine bodyPost_ret (v:=.tuple #[.agg #[.slice none 0 0,.slice none 0 0],.bool false]) ?_ rfl ⟨.inl ⟨rfl,rfl⟩,HFI.out⟩
  simp[results,Tryz.results256,go_sem,z0,z1,f0,f1,hlt]
 ·subst hE
  have HFC1:=hid (HFC.out w1 va vc V HVM.out HVR.out)
  have hany:V.any (fun r=>decide (r.1=0))=!V.all (fun r=>decide (r.1≠0)):=by
   rw[List.not_all_eq_any_not];congr 1;funext r;simp
  rw[hany]at HFC1
  obtain⟨A,hA⟩:=exq (V.all (fun r=>decide (r.1≠0)))
  rw[<- hA]at HFC1 HFF
  clear hA hany HFC
  go_wp2_with (go_at_call 80;refine HFC1.out.mono ?_;rintro e w2 ⟨rfl,hb2⟩;refine Stop.of ?_)
  refine Stop.go ?_
  have HB2:=hid (zAA HB1.out hb2)
  have HVR2:=hid (HVR.out.below hb2)
  have HVT2:=hid (fun(b o:Nat) (h:va=some ⟨b,o,none⟩)=>show ∃c z,w2.heap[b]? =some (.cells c 29 z)from by obtain⟨c,z,hh⟩:=HVT.out b o h;exact⟨c,z,(hb2.block b (HVB.out b o h).2).trans hh⟩)
  have HVB2:=hid (fun b o h=>show base<=b∧b<w2.heap.size from by have:=HVB.out b o h;have:=hb2.size;omega)
  clear hb2 HFC1
  cases A
  ·obtain rfl:F=none:=by rw[HFF.out];rfl
   obtain⟨z0,z1,f0,f1,hlt⟩:=HZ.out _ HB2.out
   have HFI:=hid (show Below w.heap.size w ((w2.setCell ⟨s0+1,0,none⟩ (.slice none 0 0)).setCell ⟨s0+1,1,none⟩ (.slice none 0 0))from by
    have hg:w.heap.size<=s0+1:=by rw[HS.out];omega
    exact zAG (zAG (zAA HB.out HB2.out) hg _ _) hg _ _)
   go_wp2
   refine bodyPost_ret (v:=.tuple #[.agg #[.slice none 0 0,.slice none 0 0],.bool false]) ?_ rfl ⟨.inl ⟨rfl,rfl⟩,HFI.out⟩
   simp[results,Tryz.results256,go_sem,z0,z1,f0,f1,hlt]
  ·obtain rfl:F=some (S,V):=by rw[HFF.out];rfl
   go_wp2_with (go_at_call 231;refine(HCL.out _ (zAA HB.out HB2.out)).mono ?_;rintro e w3 ⟨v3,rfl,ho3,hb3⟩;refine Stop.of ?_)
   refine Stop.go ?_
   obtain⟨pa,pc,rfl,hpi,_⟩:=zCS ho3 HN3.out
   have HB3:=hid (zAA HB2.out hb3)
   obtain⟨z0,z1,f0,f1,hlt⟩:=HZ.out _ HB3.out
   have hgS:w.heap.size<=s0+1:=by rw[HS.out];omega
   have HFI:=hid (show Below w.heap.size w ((w3.setCell ⟨s0+1,0,none⟩ (.slice pa n3 pc)).setCell ⟨s0+1,1,none⟩ (.slice va V.length vc))from zAG (zAG (zAA HB.out HB3.out) hgS _ _) hgS _ _)
   have hpb:=zMO ho3
   have hpt:=own_typed ho3
   have hbz2:s0+1<w2.heap.size:=by have:=HB2.out.size;have:=hs1'.out;omega
   have hsz:w.heap.size<=w2.heap.size:=Nat.le_trans HB.out.size HB2.out.size
   have hbs:wz.heap.size<=base:=HBS.out
   have HFV:=hid (show FitV w.heap.size (fun _=>False) (S,V) (.agg #[.slice pa n3 pc,.slice va V.length vc]) ((w3.setCell ⟨s0+1,0,none⟩ (.slice pa n3 pc)).setCell ⟨s0+1,1,none⟩ (.slice va V.length vc))from by
    have hkeep:∀k,k≠s0+1->((w3.setCell ⟨s0+1,0,none⟩ (.slice pa n3 pc)).setCell ⟨s0+1,1,none⟩ (.slice va V.length vc)).heap[k]? =w3.heap[k]? :=fun k hk=>(Below.heap_setCell _ _ _ _ hk).trans (Below.heap_setCell _ _ _ _ hk)
    refine⟨pa,n3,pc,va,V.length,vc,rfl,HN3.out,rfl,Nat.le_trans hm3 (by decide),HVM.out,?_,?_,?_,?_⟩
    ·intro j hj
     obtain⟨b,o,e,hb,hc⟩:=hpi j hj
     have:=hpb b o e
     refine⟨b,o,e,by simp[World.setCell];omega,?_⟩
     rw[World.cell?_of_block (hkeep b (by omega))];exact hc
    ·intro j hj
     obtain⟨b,o,e,hb,h0,h1⟩:=(HVR2.out.below hb3) j hj
     have:=HVB2.out b o e
     have hs2:=hs1'.out
     refine⟨b,o,e,by simp[World.setCell];omega,?_,?_⟩
     ·rw[World.cell?_of_block (hkeep b (by omega))];exact h0
     ·rw[World.cell?_of_block (hkeep b (by omega))];exact h1
    ·intro b o e
     have:=hpb b o e
     exact⟨by omega,by simp[World.setCell];omega,fun h=>h,by obtain⟨c,z,hh⟩:=hpt b o e;exact⟨c,z,(hkeep b (by omega)).trans hh⟩⟩
    ·intro b o e
     have:=HVB2.out b o e
     have hvt:=HVT2.out b o e
     have hs2:=hs1'.out
     have h3z:=hb3.size
     exact⟨by have:=HB.out.size;omega,by simp[World.setCell];omega,fun h=>h,by obtain⟨c,z,hh⟩:=hvt;exact⟨c,z,(hkeep b (by omega)).trans ((hb3.block b this.2).trans hh)⟩⟩)
   clear ho3 hpi hb3 hpb hpt HVR HVR2 HCL
   go_wp2
   refine bodyPost_ret (v:=.tuple #[.agg #[.slice pa n3 pc,.slice va V.length vc],.bool true]) ?_ rfl ⟨.inr ⟨_,_,rfl,rfl,HFV.out⟩,HFI.out⟩
   simp[results,Tryz.results256,go_sem,z0,z1,f0,f1,hlt]
end
section
open Go.RowKit
def IterS(P:Program)(g:Nat)(lb:Array Value){α:Type}(V:Nat->(Nat->Prop)->α->Value->World->Prop)(xs:List α)(fp:Nat->Prop)(w0:World):Prop:=
 ∀(l:Nat) (J Jx:(Nat->Prop)->List α->World->Prop) (W:World),Below w0.heap.size w0 W->
  (∀S S' s A B,Jx S s A->(∀k,S k->S' k)->(∀k,S' k->S k∨A.heap.size<=k)->Keep (fun k=>¬S' k) A B->Jx S' s B)->
  (∀S S' s A B,J S s A->(∀k,S k->S' k)->(∀k,S' k->S k∨A.heap.size<=k)->Keep (fun k=>¬S' k) A B->J S' s B)->
  (∀S pre x v W1,pre++[x] <+: xs->(∀k,S k->W.heap.size<=k∧k<W1.heap.size)->W.heap.size<=W1.heap.size->J S pre W1->V W.heap.size S x v W1->
    YieldAt Fence.wide 0 P l #[v] W1 fun e W'=>
     (W1.heap.size<=W'.heap.size∧(∀k,fp k∨S k->W'.heap[k]? =W1.heap[k]?))∧((e=.returned (.bool true)∧J S (pre++[x]) W')∨(e=.returned (.bool false)∧Jx S (pre++[x]) W')))->
  J (fun _=>False) [] W->
  CallsIn Fence.wide 0 P g (#[.func (.yield l) #[] #[]]++lb) W fun e W'=>(∃v,e=.returned v)∧((∃S,(∀k,S k->W.heap.size<=k∧k<W'.heap.size)∧J S xs W')∨(∃S pre,pre <+: xs∧Jx S pre W'))
def roundEndS{α:Type}(S:Nat->Prop)(I:List α->World->Prop)(Ix:Code->List α->World->Prop)(xs:List α)(W:World):Exit->Act->World->Prop
 | .normal,_,W'=>W.heap.size<=W'.heap.size∧(∀k,S k->W'.heap[k]? =W.heap[k]?)∧I xs W'
 | .ret,_,W'=>W.heap.size<=W'.heap.size∧(∀k,S k->W'.heap[k]? =W.heap[k]?)∧Ix .ret xs W'
 | .exit id,_,W'=>W.heap.size<=W'.heap.size∧(∀k,S k->W'.heap[k]? =W.heap[k]?)∧Ix (.exit id) xs W'
 | .goto t,_,W'=>W.heap.size<=W'.heap.size∧(∀k,S k->W'.heap[k]? =W.heap[k]?)∧Ix (.goto t) xs W'
 | .panic _,_,_=>False
 | .outgrown,_,_=>False
theorem range_s{P:Program}{g:Operand}{p:Tmp}{assign body:Code}{Q:Exit->Act->World->Prop}{a:Act}{w:World}
 {gf:Nat}{lb:Array Value}(hg:a.eval g=.func (.func gf) #[] lb)(eg:∀args w,(callFunc gf args).run P w=.ok (.enter gf args) w)
 {α:Type}{V:Nat->(Nat->Prop)->α->Value->World->Prop}{xs:List α}{fp:Nat->Prop}{w0:World}(hseq:IterS P gf lb V xs fp w0)(hb0:Below w0.heap.size w0 w)(hfp:∀k,fp k->k<w.heap.size)
 (I:(Nat->Prop)->List α->World->Prop)(Ix:(Nat->Prop)->Code->List α->World->Prop)
 (hI:∀S S' s A B,I S s A->(∀k,S k->S' k)->(∀k,S' k->S k∨A.heap.size<=k)->(∀k,S' k->w.heap.size+2<=k)->w.heap.size+2<=A.heap.size->Keep (fun k=>k≠w.heap.size∧k≠w.heap.size+1∧¬S' k) A B->I S' s B)
 (hIx:∀S S' c s A B,Ix S c s A->(∀k,S k->S' k)->(∀k,S' k->S k∨A.heap.size<=k)->(∀k,S' k->w.heap.size+2<=k)->w.heap.size+2<=A.heap.size->Keep (fun k=>k≠w.heap.size∧k≠w.heap.size+1∧¬S' k) A B->Ix S' c s B)
 (hV:∀S x v A B,V (w.heap.size+2) S x v A->Keep (fun k=>k≠w.heap.size∧k≠w.heap.size+1) A B->V (w.heap.size+2) S x v B)
 (h0:∀W,Keep (fun k=>k<w.heap.size) w W->w.heap.size+2<=W.heap.size->I (fun _=>False) [] W)(Ax:Value->Act->World->Prop)
 (hAx:∀v a' A B,Ax v a' A->Keep (fun k=>k≠w.heap.size∧k≠w.heap.size+1) A B->Ax v a' B)
 (hassign:∀(l:Nat) (S:Nat->Prop) (x:α) (v:Value) (W:World) (K:Act->World->Prop),w.heap.size+2<=W.heap.size->V (w.heap.size+2) S x v W->(∀a' W',Below W.heap.size W W'->Ax v a' W'->K a' W')->
   assign.wpIn (Fence.wide.inRound l) 0 P (Exit.then K (fun _ _ _=>False)) {tmps:=a.tmps.setIfInBounds p v,defers:=[]} W)
 (hbody:∀(l:Nat) (S:Nat->Prop) (pre:List α) (x:α) (v:Value) (a':Act) (W:World),pre++[x] <+: xs->(∀k,S k->w.heap.size+2<=k∧k<W.heap.size)->I S pre W->V (w.heap.size+2) S x v W->Ax v a' W->w.heap.size+2<=W.heap.size->
   (∃o,W.heap[w.heap.size]? =some o∧o.isCells=false)->(∃o,W.heap[w.heap.size+1]? =some o∧o.isCells=false)->
   body.wpIn (Fence.wide.inRound l) 0 P (roundEndS (fun k=>fp k∨k=w.heap.size∨k=w.heap.size+1∨S k) (I S) (Ix S) (pre++[x]) W) a' W)
 (hdone:∀(S:Nat->Prop) (W:World),w.heap.size+2<=W.heap.size->(∀k,S k->w.heap.size+2<=k∧k<W.heap.size)->I S xs W->W.heap[w.heap.size]? =some (.deferred (some []))->Q .normal {a with defers:={target:=.collected w.heap.size,args:=#[]}::a.defers} W)
 (hstop:∀(S:Nat->Prop) (c:Code) (pre:List α) (W:World),pre <+: xs->(∀k,S k->w.heap.size+2<=k)->Ix S c pre W->W.heap[w.heap.size]? =some (.deferred (some []))->c.wpIn Fence.wide 0 P Q {a with defers:={target:=.collected w.heap.size,args:=#[]}::a.defers} W):
 (Code.rangeFunc g #[p] assign body).wpIn Fence.wide 0 P Q a w:=by
 refine wpIn_rangeFunc ?_
 intro fn hfn
 obtain⟨rec,hrec⟩:∃rec:LoopState->Option Code->Loop,rec=fun st pe=>{state:=st,pending:=pe,fn,tmps:=a.tmps,params:=#[p],assign,body,defers:=w.heap.size}:=⟨_,rfl⟩
 obtain⟨W1,hW1⟩:∃W1,(w.alloc (.deferred (some []))).alloc (.loop (rec .ready none))=W1:=⟨_,rfl⟩
 have hsz1:W1.heap.size=w.heap.size+2:=by rw[<- hW1];simp
 have hL1:W1.heap[w.heap.size+1]? =some (.loop (rec .ready none)):=by
  rw[<- hW1];have:=World.alloc_heap_new (w.alloc (.deferred (some []))) (.loop (rec .ready none));rwa [World.size_alloc]at this
 have hK1:W1.heap[w.heap.size]? =some (.deferred (some [])):=by
  rw[<- hW1];exact(Below.heap_alloc _ _ _ (by simp)).trans (World.alloc_heap_new w _)
 have hbw:Below w.heap.size w W1:=by rw[<- hW1];exact((Below.refl _ w).alloc (Nat.le_refl _) _).alloc (by simp) _
 refine⟨w.heap.size+1,[{target:=.collected w.heap.size,args:=#[]}],W1,{target:=.fn (.func gf) lb,args:=#[.func (.yield (w.heap.size+1)) #[] #[]]},W1,gf,
  #[.func (.yield (w.heap.size+1)) #[] #[]]++lb,W1,?_,?_,?_,?_,fun h=>by simp[Fence.wide]at h,?_⟩
 ·rw[<- hW1,hrec];exact run_enterLoop_outer _ _ _ _ _
 ·simp only[resolve,hg]
  simp[go_sem]
 ·intro f' hf';exact trivial
 ·simp[invoke,go_sem,eg]
 ·refine(hseq (w.heap.size+1)
   (fun S pre W=>(I S pre W∧w.heap.size+2<=W.heap.size∧∀k,S k->w.heap.size+2<=k)∧W.heap[w.heap.size+1]? =some (.loop (rec .ready none))∧W.heap[w.heap.size]? =some (.deferred (some [])))
   (fun S pre W=>∃c,(Ix S c pre W∧w.heap.size+2<=W.heap.size∧∀k,S k->w.heap.size+2<=k)∧W.heap[w.heap.size+1]? =some (.loop (rec .done (some c)))∧W.heap[w.heap.size]? =some (.deferred (some [])))
   W1 (zAA hb0 hbw) ?_ ?_ ?_ ?_).mono ?_
  ·rintro S S' s A B ⟨c,⟨hi,hsA,hSl⟩,hl,hk⟩ hSS hSn hAB
   have hS':∀k,S' k->w.heap.size+2<=k:=fun k h=>by
    rcases hSn k h with h1|h1
    ·exact hSl k h1
    ·omega
   exact⟨c,⟨hIx S S' c s A B hi hSS hSn hS' hsA (hAB.mono fun k hk=>hk.2.2),Nat.le_trans hsA hAB.size,hS'⟩,
    (hAB.block _ (Array.getElem?_eq_some_iff.1 hl).1 (fun h=>by have:=hS' _ h;omega)).trans hl,(hAB.block _ (Array.getElem?_eq_some_iff.1 hk).1 (fun h=>by have:=hS' _ h;omega)).trans hk⟩
  ·rintro S S' s A B ⟨⟨hi,hsA,hSl⟩,hl,hk⟩ hSS hSn hAB
   have hS':∀k,S' k->w.heap.size+2<=k:=fun k h=>by
    rcases hSn k h with h1|h1
    ·exact hSl k h1
    ·omega
   exact⟨⟨hI S S' s A B hi hSS hSn hS' hsA (hAB.mono fun k hk=>hk.2.2),Nat.le_trans hsA hAB.size,hS'⟩,
    (hAB.block _ (Array.getElem?_eq_some_iff.1 hl).1 (fun h=>by have:=hS' _ h;omega)).trans hl,(hAB.block _ (Array.getElem?_eq_some_iff.1 hk).1 (fun h=>by have:=hS' _ h;omega)).trans hk⟩
  ·rintro S pre x v W hpre hSb hsz ⟨⟨hi,hsW,hSl⟩,hl,hk⟩ hv
   rw[hsz1]at hv hSb
   have hlt:w.heap.size+1<W.heap.size:=(Array.getElem?_eq_some_iff.1 hl).1
   have hy:=run_yield (P:=P) (args:=#[v]) hl (by rw[hrec];simp)
   rw[hrec]at hy
   have hy':(Instr.yield (w.heap.size+1) #[v]).run P W=.ok (.round (w.heap.size+1) fn (a.tmps.setIfInBounds p v) assign body) W:=by
    simpa using hy
   refine⟨fn,_,assign,body,hy',roundIn_of_wpIn hfn ?_⟩
   refine hassign _ S x v W _ hsW hv ?_
   intro a' W' hbW' hax
   have hlW':W'.heap[w.heap.size+1]? =some (.loop (rec .ready none)):=(hbW'.block _ hlt).trans hl
   have hkW':W'.heap[w.heap.size]? =some (.deferred (some [])):=(hbW'.block _ (by omega)).trans hk
   have hltW':w.heap.size+1<W'.heap.size:=by have:=hbW'.size;omega
   refine⟨_,run_beginRound hlW' (by rw[hrec]),?_⟩
   have hl2:(W'.putObj (w.heap.size+1) (.loop {rec .ready none with state:=.busy})).heap[w.heap.size+1]? =some (.loop {rec .ready none with state:=.busy}):=World.putObj_heap_same hltW'
   have hkp:=Keep.put W' (w.heap.size+1) (.loop {rec .ready none with state:=.busy})
   have hkp2:Keep (fun k=>k≠w.heap.size∧k≠w.heap.size+1) W' _:=hkp.mono fun k hk=>hk.2
   have hIW':=hI S S pre _ _ (hI S S pre _ _ hi (fun _ h=>h) (fun _ h=>.inl h) hSl hsW (Keep.of_below hbW')) (fun _ h=>h) (fun _ h=>.inl h) hSl (Nat.le_trans hsW hbW'.size) (hkp2.mono fun k hk=>⟨hk.1,hk.2.1⟩)
   refine wpIn_mono (hbody _ S pre x v a' _ hpre (fun k h=>⟨hSl k h,by have:=(hSb k h).2;exact Nat.lt_of_lt_of_le this (Nat.le_trans hbW'.size hkp.size)⟩) hIW' (hV S x v _ _ (hV S x v _ _ hv (Keep.of_below hbW')) hkp2) (hAx _ _ _ _ hax hkp2) (Nat.le_trans (Nat.le_trans hsW hbW'.size) hkp.size) ⟨_,(World.putObj_heap_other (by omega)).trans hkW',rfl⟩ ⟨_,hl2,rfl⟩) ?_
   have fin:∀(jump:Option Code) (W3:World),(∀k,(fp k∨k=w.heap.size∨k=w.heap.size+1∨S k)->W3.heap[k]? =(W'.putObj (w.heap.size+1) (.loop {rec .ready none with state:=.busy})).heap[k]?)->
    (Instr.endRound (w.heap.size+1) jump).run P W3=.ok (.bool jump.isNone) (W3.putObj (w.heap.size+1) (.loop (rec (if jump.isNone then .ready else .done) jump)))∧
    W3.heap[w.heap.size+1]? =some (.loop {rec .ready none with state:=.busy})∧
    (W3.putObj (w.heap.size+1) (.loop (rec (if jump.isNone then .ready else .done) jump))).heap[w.heap.size+1]? =some (.loop (rec (if jump.isNone then .ready else .done) jump))∧
    (W3.putObj (w.heap.size+1) (.loop (rec (if jump.isNone then .ready else .done) jump))).heap[w.heap.size]? =some (.deferred (some [])):=fun jump W3 hk3=>by
    have hl3:=(hk3 (w.heap.size+1) (by simp)).trans hl2
    have:=run_endRound (P:=P) jump hl3
    rw[hrec]at this⊢
    refine⟨this,by rw[hrec]at hl3;exact hl3,World.putObj_heap_same (Array.getElem?_eq_some_iff.1 hl3).1,(World.putObj_heap_other (by omega)).trans ((hk3 w.heap.size (by simp)).trans ((World.putObj_heap_other (by omega)).trans hkW'))⟩
   rintro e a3 W3 hp
   have keepP:∀(o:Obj),Keep (fun k=>k≠w.heap.size∧k≠w.heap.size+1) W3 (W3.putObj (w.heap.size+1) o):=fun o=>(Keep.put W3 (w.heap.size+1) o).mono fun k hk=>hk.2
   have both:∀(o:Obj),W'.heap.size<=W3.heap.size->(∀k,(fp k∨k=w.heap.size∨k=w.heap.size+1∨S k)->W3.heap[k]? =(W'.putObj (w.heap.size+1) (.loop {rec .ready none with state:=.busy})).heap[k]?)->
    W.heap.size<=(W3.putObj (w.heap.size+1) o).heap.size∧∀k,fp k∨S k->(W3.putObj (w.heap.size+1) o).heap[k]? =W.heap[k]? :=fun o hs3 hk3=>by
    refine⟨Nat.le_trans (Nat.le_trans hbW'.size hs3) (keepP o).size,fun k hk=>?_⟩
    have hne:k≠w.heap.size+1:=by
     rcases hk with hk|hk
     ·have:=hfp k hk;omega
     ·have:=hSl k hk;omega
    have hltk:k<W.heap.size:=by
     rcases hk with hk|hk
     ·have:=hfp k hk;omega
     ·exact(hSb k hk).2
    exact(World.putObj_heap_other hne).trans ((hk3 k (by rcases hk with hk|hk<;>simp[hk])).trans ((World.putObj_heap_other hne).trans (hbW'.block k hltk)))
   cases e with
   |normal=>
    obtain⟨hs3,hk3,hi3⟩:=hp
    obtain⟨hr,hl3,hl4,hk4⟩:=fin none W3 hk3
    have hs3':W.heap.size<=W3.heap.size:=Nat.le_trans (Nat.le_trans hbW'.size hkp.size) hs3
    exact⟨_,_,hr,both _ (Nat.le_trans hkp.size hs3) hk3,.inl ⟨rfl,⟨hI S S _ _ _ hi3 (fun _ h=>h) (fun _ h=>.inl h) hSl (Nat.le_trans hsW hs3') ((keepP _).mono fun k hk=>⟨hk.1,hk.2.1⟩),Nat.le_trans (Nat.le_trans hsW hs3') (keepP _).size,hSl⟩,hl4,hk4⟩⟩
   |ret=>
    obtain⟨hs3,hk3,hi3⟩:=hp
    obtain⟨hr,hl3,hl4,hk4⟩:=fin (some .ret) W3 hk3
    have hs3':W.heap.size<=W3.heap.size:=Nat.le_trans (Nat.le_trans hbW'.size hkp.size) hs3
    exact⟨_,_,hr,both _ (Nat.le_trans hkp.size hs3) hk3,.inr ⟨rfl,.ret,⟨hIx S S _ _ _ _ hi3 (fun _ h=>h) (fun _ h=>.inl h) hSl (Nat.le_trans hsW hs3') ((keepP _).mono fun k hk=>⟨hk.1,hk.2.1⟩),Nat.le_trans (Nat.le_trans hsW hs3') (keepP _).size,hSl⟩,hl4,hk4⟩⟩
   |exit id=>
    obtain⟨hs3,hk3,hi3⟩:=hp
    obtain⟨hr,hl3,hl4,hk4⟩:=fin (some (.exit id)) W3 hk3
    have hs3':W.heap.size<=W3.heap.size:=Nat.le_trans (Nat.le_trans hbW'.size hkp.size) hs3
    exact⟨_,_,hr,both _ (Nat.le_trans hkp.size hs3) hk3,.inr ⟨rfl,.exit id,⟨hIx S S _ _ _ _ hi3 (fun _ h=>h) (fun _ h=>.inl h) hSl (Nat.le_trans hsW hs3') ((keepP _).mono fun k hk=>⟨hk.1,hk.2.1⟩),Nat.le_trans (Nat.le_trans hsW hs3') (keepP _).size,hSl⟩,hl4,hk4⟩⟩
   |goto t=>
    obtain⟨hs3,hk3,hi3⟩:=hp
    obtain⟨hr,hl3,hl4,hk4⟩:=fin (some (.goto t)) W3 hk3
    have hs3':W.heap.size<=W3.heap.size:=Nat.le_trans (Nat.le_trans hbW'.size hkp.size) hs3
    exact⟨_,_,hr,both _ (Nat.le_trans hkp.size hs3) hk3,.inr ⟨rfl,.goto t,⟨hIx S S _ _ _ _ hi3 (fun _ h=>h) (fun _ h=>.inl h) hSl (Nat.le_trans hsW hs3') ((keepP _).mono fun k hk=>⟨hk.1,hk.2.1⟩),Nat.le_trans (Nat.le_trans hsW hs3') (keepP _).size,hSl⟩,hl4,hk4⟩⟩
   |panic ch=>exact hp.elim
   |outgrown=>exact hp.elim
  ·exact⟨⟨h0 W1 (Keep.of_below hbw |>.mono fun k _=>trivial) (by omega),by omega,fun k h=>h.elim⟩,hL1,hK1⟩
  ·rintro e W2 ⟨⟨v,rfl⟩,(⟨S,hSw,⟨hi,hs2,hSl⟩,hl,hk⟩|⟨S,pre,hSp,c,⟨hi,hs2,hSl⟩,hl,hk⟩)⟩
   ·refine⟨none,_,by have:=run_endLoop (P:=P) hl (by rw[hrec];simp);rw[hrec]at this;exact this,hdone S _ (Nat.le_trans hs2 (Keep.put W2 _ _).size) (fun k h=>⟨hSl k h,Nat.lt_of_lt_of_le (hSw k h).2 (Keep.put W2 _ _).size⟩) (hI S S _ _ _ hi (fun _ h=>h) (fun _ h=>.inl h) hSl hs2 ((Keep.put W2 _ _).mono fun k hk=>hk.2.1)) ((World.putObj_heap_other (by omega)).trans hk)⟩
   ·refine⟨some c,_,by have:=run_endLoop (P:=P) hl (by rw[hrec];simp);rw[hrec]at this;exact this,hstop S c pre _ hSp hSl (hIx S S _ _ _ _ hi (fun _ h=>h) (fun _ h=>.inl h) hSl hs2 ((Keep.put W2 _ _).mono fun k hk=>hk.2.1)) ((World.putObj_heap_other (by omega)).trans hk)⟩
end
section
open Go.RowKit
section
variable {P:Program} {ops:Array Oper} {Q:Exit->Act->World->Prop} {md:Region.Mode} {S:World->Prop}
theorem wpOp_inWide(n:Nat){i:Nat}{K:Act->World->Prop}{a:Act}{w:World}(hq:¬LetsOut Q)(h:wpOp P ops Q i K a w):wpOpIn Fence.wide n P ops Q i K a w:=by
 unfold wpOp at h
 unfold wpOpIn
 cases ho:ops[i]? with
 |none=>simpa[ho]using h
 |some o=>
  simp only[ho]at h⊢
  split
  ·rename_i hw
   simp only[hw,if_true]at h
   have h:=h.resolve_right (fun x=>hq x.2)
   refine⟨fun f _=>trivial,?_⟩
   rw[show Fence.wide.round=none from rfl,Oper.semAt_none]
   unfold Oper.wp at h
   generalize (execOp a.eval o).run P w=r at*
   cases r with
   |ok x w'=>
    cases x<;>simp only[Oper.upon,Oper.uponIn]at h⊢ <;>first
     |exact h
     |exact⟨fun h=>by simp[Fence.wide]at h,callsIn_wide.2 h⟩
     | (refine⟨fun h=>by simp[Fence.wide]at h,fun c cs _=>?_⟩
        obtain⟨v,w'',hr,hs⟩:=h c cs
        exact⟨v,w'',hr,(StepsIn.of_steps hs).mono fun m _=>fenced_wide P m⟩)
   |halt x w'=>cases x<;>simp only[Oper.upon,Oper.uponIn]at h⊢ <;>exact h
  ·rename_i hw
   simp only[hw]at h
   exact⟨fun f _=>trivial,h⟩
theorem AnyT.inWide{T:Nat->World->Prop}(n:Nat)(hq:¬LetsOut Q):∀(fuel:Nat) (listed:Array Bool) (a:Act) (w:World),
 AnyT P md ops Q T fuel listed a w->wpAnyIn Fence.wide n P md ops Q fuel listed a w
 |0,_,_,_,h=>h
 |fuel+1,_,_,_,h=>⟨h.1,fun i hi=>wpOpIn_mono (fun a' w' h'=>AnyT.inWide n hq fuel _ a' w' h'.2) (wpOp_inWide n hq (h.2 i hi))⟩
theorem wide_region(T:Nat->World->Prop)(n:Nat){id:Nat}{a:Act}{w:World}(hm:P.follows .mixedOrders=true)(hq:¬LetsOut Q)
 (h:AnyT P .any ops Q T ops.size (Array.replicate ops.size false) a w.drew):(Code.region id ops true).wpIn Fence.wide n P Q a w:=
 wpIn_region_any hm (AnyT.inWide n hq _ _ _ _ h)
end
def markL(hs:List Nat):List Deferred:=hs.map fun h=>{target:=.collected h,args:=#[]}
theorem zGC{F:Fence}{n:Nat}{P:Program}{fn:Func}{tmps:Array Value}{R:Ending->World->Prop}:∀(hs:List Nat) (w:World),hs.Nodup->(∀h∈hs,w.heap[h]? =some (.deferred (some [])))->
 (∀w',Keep (fun k=>k∉hs) w w'->LeavesIn F n P fn tmps R [] .returning w')->LeavesInM F n P fn tmps R (markL hs) .returning w
 | [],w,_,_,h=>h w (Keep.refl _ _)
 |k::hs,w,hd,hm,h=>by
  obtain⟨h1,h2⟩:=List.nodup_cons.1 hd
  refine⟨by simp[markL],.inl ⟨k,_,by rfl,run_takeDeferred (hm k (by simp)),?_⟩⟩
  refine zGC hs _ h2 (fun q hq=>(World.putObj_heap_other (by rintro rfl;exact h1 hq)).trans (hm q (by simp[hq]))) fun w' hk=>h w' ?_
  have hp:=Keep.put w k (.deferred none)
  refine⟨hk.os.trans hp.os,hk.tape.trans hp.tape,hk.output.trans hp.output,Nat.le_trans hp.size hk.size,fun i hi hs'=>?_⟩
  have hne:i≠k:=fun e=>hs' (by simp[e])
  exact(hk.block i (Nat.lt_of_lt_of_le hi hp.size) (fun h=>hs' (by simp[h]))).trans (World.putObj_heap_other hne)
def SetV(lo:Nat)(S:Nat->Prop)(x:List Int)(v:Value)(W:World):Prop:=∃a c,v=.slice a x.length c∧zAI W a x∧∀b o,a=some ⟨b,o,none⟩->lo<=b
theorem SetV.keep{lo:Nat}{S:Nat->Prop}{x:List Int}{v:Value}{A B:World}{T:Nat->Prop}(h:SetV lo S x v A)(hk:Keep T A B)(hT:∀k,lo<=k->T k):SetV lo S x v B:=by
 obtain⟨a,c,e,hi,hb⟩:=h
 refine⟨a,c,e,fun j hj=>?_,hb⟩
 obtain⟨b,o,e2,hlt,hc⟩:=hi j hj
 exact⟨b,o,e2,Nat.lt_of_lt_of_le hlt hk.size,hk.cell hc (hT b (hb b o e2))⟩
theorem iter_setsS(w0:World)(n k kb nb:Nat)(hn:n<=1000)(hk:k<=1000)(hkb:kb<w0.heap.size)(hnb:nb<w0.heap.size)(hf0:w0.cell? ⟨kb,0,none⟩=some (.int .i64 k))(hf1:w0.cell? ⟨nb,0,none⟩=some (.int .i64 n)):
 IterS Tryz.prog 222 #[.pointer (some ⟨kb,0,none⟩),.pointer (some ⟨nb,0,none⟩)] SetV (comb n k 0) (fun q=>q=kb∨q=nb) w0:=by
 rcases Nat.eq_zero_or_pos k with rfl|h1
 ·intro l J Jx W hb hJx hJ hY h0
  have hxs:comb n 0 0=[[]]:=by unfold comb;rfl
  rw[hxs]at hY⊢
  have hg0:W.cell? ⟨kb,0,none⟩=some (.int .i64 0):=(hb.cell (p:=⟨kb,0,none⟩) hkb).trans hf0
  have hg1:W.cell? ⟨nb,0,none⟩=some (.int .i64 n):=(hb.cell (p:=⟨nb,0,none⟩) hnb).trans hf1
  have hkW:kb<W.heap.size:=Nat.lt_of_lt_of_le hkb hb.size
  have hnW:nb<W.heap.size:=Nat.lt_of_lt_of_le hnb hb.size
  have HJ:=hid hJ
  have HY:=hid hY
  have H0:=hid h0
  have HALL:=hid (all_c W 0 (by decide))
  clear hJ hJx hY h0 hf0 hf1 hb hxs
  refine callsIn_of_wp Tryz.func222 rfl trivial ?_ rfl
  simp only[Tryz.ntmps222,List.size_toArray,List.length_cons,List.length_nil,Nat.reduceAdd,Nat.reduceSub,Array.replicate_succ,Array.replicate_zero,List.push_toArray,List.append_toArray,List.nil_append,List.cons_append]
  gi_wp2_with (refine⟨trivial,rfl,?_⟩;gi_at_call 194;refine(callsIn_wide.2 HALL.out).mono ?_;rintro e w1 ⟨v,rfl,ho1,hb1⟩;refine Stop.of ?_)
  refine Stop.go ?_
  obtain⟨va,vc,rfl⟩:=zAD ho1
  have hVB:=zMO ho1
  have hJ1:J (fun _=>False) [] w1:=HJ.out _ _ _ _ _ H0.out (fun _ h=>h) (fun _ h=>h.elim) (Keep.of_below hb1)
  have hc0:w1.cell? ⟨kb,0,none⟩=some (.int .i64 0):=(hb1.cell (p:=⟨kb,0,none⟩) hkW).trans hg0
  have hc1:w1.cell? ⟨nb,0,none⟩=some (.int .i64 n):=(hb1.cell (p:=⟨nb,0,none⟩) hnW).trans hg1
  have hyk:=HY.out (fun _=>False) [] [] (.slice va 0 vc) w1 (List.prefix_refl _) (fun _ h=>h.elim) hb1.size hJ1 ⟨va,vc,rfl,fun j hj=>by simp at hj,fun b o e=>(hVB b o e).1⟩
  have hn0:(0:Int)<=(n:Int):=by omega
  have HB1:=hid hb1
  clear ho1 hVB hJ1 HALL hb1
  gi_wp2
  refine wpIn_loop_once ?_
  obtain⟨fn,tmps,assign,body,hy,hR⟩:=hyk
  gi_wp2
  refine⟨rfl,hR.mono ?_⟩
  clear hR hy
  rintro e W3 ⟨⟨hs3,hk3⟩,⟨rfl,hJ3⟩|⟨rfl,hJx⟩⟩
  ·have hg30:W3.cell? ⟨kb,0,none⟩=some (.int .i64 0):=(World.cell?_of_block (a:=⟨kb,0,none⟩) (hk3 kb (Or.inl (Or.inl rfl)))).trans hc0
   have HJ3:=hid hJ3
   clear hJ3 hk3 hc0 hc1
   gi_wp2
   refine wpIn_loop_once ?_
   gi_wp2
   gi_quiet (fail)
   gi_wp2
   refine bodyPost_ret (results_none rfl _ _ _) rfl ?_
   exact⟨⟨_,rfl⟩,.inl ⟨fun _=>False,fun _ h=>h.elim,HJ.out _ _ _ _ _ HJ3.out (fun _ h=>h) (fun _ h=>h.elim) ((Keep.refl _ _).drewN _)⟩⟩
  ·gi_wp2
   refine bodyPost_ret (results_none rfl _ _ _) rfl ?_
   exact⟨⟨_,rfl⟩,.inr ⟨fun _=>False,[[]],List.prefix_refl _,hJx⟩⟩
 ·intro l J Jx W hb hJx hJ hY h0
  refine(iter_sets w0 n k kb nb hn hk h1 hkb hnb hf0 hf1 l (fun it pre X=>(pre=[]∧Keep (fun q=>q≠it) W X)∨(J (fun q=>q=it) pre X∧it<X.heap.size)) (fun pre X=>∃S,Jx S pre X) W hb ?_ ?_ ?_).mono ?_
  ·rintro it s A B _ (⟨e,hj⟩|⟨hj,hl⟩) hab
   ·exact .inl ⟨e,hj.trans hab⟩
   ·exact .inr ⟨hJ _ _ _ _ _ hj (fun _ h=>h) (fun _ h=>.inl h) hab,Nat.lt_of_lt_of_le hl hab.size⟩
  ·intro it pre x cap sp W1 hpre hit hit1 hj hrow
   have hj:J (fun q=>q=it) pre W1:=by
    rcases hj with⟨e,hj⟩|⟨hj,_⟩
    ·rw[e]
     exact hJ _ _ _ _ _ h0 (fun _ h=>h.elim) (fun q hq=>.inr (by rw[hq];exact hit)) hj
    ·exact hj
   have hsz:W.heap.size<=W1.heap.size:=by omega
   have:=hY (fun q=>q=it) pre x (.slice (some ⟨it,0,none⟩) x.length cap) W1 hpre (fun q hq=>by subst hq;exact⟨hit,hit1⟩) hsz hj ⟨_,_,rfl,ints_row hrow,fun b o e=>by simp only[Option.some.injEq,Addr.mk.injEq]at e;rw[<- e.1];exact hit⟩
   obtain⟨fn,tmps,assign,body,hy,hR⟩:=this
   refine⟨fn,tmps,assign,body,hy,hR.mono ?_⟩
   rintro e W3 ⟨⟨h2,h3⟩,⟨he,h1⟩|⟨he,h⟩⟩
   ·exact .inl ⟨he,.inr ⟨h1,Nat.lt_of_lt_of_le hit1 h2⟩,h2,h3⟩
   ·exact .inr ⟨he,_,h⟩
  ·intro it hit
   exact .inl ⟨rfl,Keep.refl _ _⟩
  ·rintro e W' ⟨hv,⟨it,hit,⟨e,hj⟩|⟨hj,hl⟩⟩|⟨pre,hpre,S,hj⟩⟩
   ·rw[e]
    refine⟨hv,.inl ⟨fun q=>q=it∧q<W'.heap.size,fun q hq=>by rw[hq.1];exact⟨hit,by have:=hq.2;rwa [hq.1]at this⟩,hJ _ _ _ _ _ h0 (fun _ h=>h.elim) (fun q hq=>.inr (by rw[hq.1];exact hit)) ?_⟩⟩
    exact⟨hj.os,hj.tape,hj.output,hj.size,fun i hi _=>hj.block i hi (fun e=>by omega)⟩
   ·exact⟨hv,.inl ⟨_,fun q hq=>by rw[hq];exact⟨hit,hl⟩,hj⟩⟩
   ·exact⟨hv,.inr ⟨_,_,hpre,hj⟩⟩
end
section
open Go.RowKit
attribute [local go_sem] Oper.semAt_some
theorem wide_regionK{P:Program}{ops:Array Oper}(T:Nat->World->Prop)(n:Nat){id:Nat}{a:Act}{w:World}{K:Act->World->Prop}{Q:Exit->Act->World->Prop}(hm:P.follows .mixedOrders=true)
 (h:AnyT P .any ops (Exit.then K (fun _ _ _=>False)) T ops.size (Array.replicate ops.size false) a w.drew):(Code.region id ops true).wpIn Fence.wide n P (Exit.then K Q) a w:=
 wpIn_mono (wide_region T n hm (fun⟨_,_,h⟩=>h) h) (by intro e a w h;cases e<;>first|exact h|exact h.elim)
theorem run_min3{P:Program}(u:Array TypeId)(t:TypeId)(x y z:Int)(w:World):(Builtin.min_ u t #[.int .i64 x,.int .i64 y,.int .i64 z]).run P w=.ok (.int .i64 (min (min x y) z)) w:=by
 have h1:Builtin.min_ u t #[.int .i64 x,.int .i64 y,.int .i64 z]=pure (.int .i64 (min (min x y) z)):=by
  unfold Builtin.min_
  simp only[List.foldlM,Builtin.min2,pure_bind]
  congr 2
  by_cases h:y<x
  ·rw[if_pos h];split<;>omega
  ·rw[if_neg h];split<;>omega
 rw[h1];rfl
structure FitsI (w0:World) (fp:Nat->Prop) (l:Nat) (J:(Nat->Prop)->List FitT->World->Prop) (lo:Nat) (pre:List FitT) (S:Nat->Prop) (hs:List Nat) (X:World):Prop where
 j:J S pre X
 s:∀k,S k->lo<=k
 y:S lo
 c:X.cell? ⟨lo,0,none⟩=some (.func (.yield l) #[] #[])
 f:∀k,fp k->k<lo∧X.heap[k]? =w0.heap[k]?
 z:lo<X.heap.size
 m:∀h∈hs,S h∧X.heap[h]? =some (.deferred (some []))
theorem FitsI.keep{w0:World}{fp:Nat->Prop}{l lo:Nat}{J:(Nat->Prop)->List FitT->World->Prop}{pre:List FitT}{S S':Nat->Prop}{hs:List Nat}{A B:World}
 (hJ:∀S S' s A B,J S s A->(∀k,S k->S' k)->(∀k,S' k->S k∨A.heap.size<=k)->Keep (fun k=>¬S' k) A B->J S' s B)
 (h:FitsI w0 fp l J lo pre S hs A)(h1:∀k,S k->S' k)(h2:∀k,S' k->S k∨A.heap.size<=k){T:Nat->Prop}(hk:Keep T A B)(hT:∀k,k<A.heap.size->¬S' k->T k)(hTl:T lo)(hTm:∀h∈hs,T h):
 FitsI w0 fp l J lo pre S' hs B where
 j:=hJ _ _ _ _ _ h.j h1 h2 ⟨hk.os,hk.tape,hk.output,hk.size,fun i hi hs=>hk.block i hi (hT i hi hs)⟩
 s:=fun k hk'=>by
  rcases h2 k hk' with h3|h3
  ·exact h.s k h3
  ·have:=h.z;omega
 y:=h1 _ h.y
 c:=hk.cell h.c hTl
 f:=fun k hk'=>by
  obtain⟨h3,h4⟩:=h.f k hk'
  refine⟨h3,(hk.block k (Nat.lt_trans h3 h.z) ?_).trans h4⟩
  refine hT k (Nat.lt_trans h3 h.z) fun h5=>?_
  rcases h2 k h5 with h6|h6
  ·have:=h.s k h6;omega
  ·have:=h.z;omega
 z:=Nat.lt_of_lt_of_le h.z hk.size
 m:=fun q hq=>by
  obtain⟨h3,h4⟩:=h.m q hq
  exact⟨h1 _ h3,(hk.block q (Array.getElem?_eq_some_iff.1 h4).1 (hTm q hq)).trans h4⟩
theorem FitsI.step{w0:World}{fp:Nat->Prop}{l lo:Nat}{J J':(Nat->Prop)->List FitT->World->Prop}{pre pre':List FitT}{S:Nat->Prop}{hs:List Nat}{A B C:World}
 (h:FitsI w0 fp l J lo pre S hs A)(hS:∀k,S k->k<A.heap.size)(hb:Below A.heap.size A B)(hz:B.heap.size<=C.heap.size)(hk:∀k,fp k∨S k->C.heap[k]? =B.heap[k]?)(hj:J' S pre' C):FitsI w0 fp l J' lo pre' S hs C where
 j:=hj
 s:=h.s
 y:=h.y
 c:=(World.cell?_of_block (a:=⟨lo,0,none⟩) (hk lo (.inr h.y))).trans ((hb.cell (p:=⟨lo,0,none⟩) h.z).trans h.c)
 f:=fun k hk'=>by
  obtain⟨h3,h4⟩:=h.f k hk'
  exact⟨h3,(hk k (.inl hk')).trans ((hb.block k (Nat.lt_trans h3 h.z)).trans h4)⟩
 z:=Nat.lt_of_lt_of_le h.z (Nat.le_trans hb.size hz)
 m:=fun q hq=>by
  obtain⟨h3,h4⟩:=h.m q hq
  exact⟨h3,(hk q (.inr h3)).trans ((hb.block q (hS q h3)).trans h4)⟩
theorem zJB(M:Mask)(y:List Int)(W t:Nat):∀d,zBX M y W t <+: zBX M y W (t+d)
 |0=>List.prefix_refl _
 |d+1=>by
  rw[show t+(d+1)=(t+d)+1 by omega,zCN]
  exact(zJB M y W t d).trans (List.prefix_append _ _)
theorem zOE{M:Mask}{y:List Int}{W t N:Nat}{pre:List (List Int)}(ht:t<N+1)(hp:pre <+: comb W t 0):
 zBX M y W t++pre.filterMap (fitF M y) <+: zBX M y W (N+1):=by
 obtain⟨r,hr⟩:=hp
 have h1:zBX M y W t++pre.filterMap (fitF M y) <+: zBX M y W (t+1):=by
  rw[zCN,<- hr,List.filterMap_append]
  exact⟨r.filterMap (fitF M y),by rw[List.append_assoc]⟩
 obtain⟨d,rfl⟩:∃d,N=t+d:=⟨N-t,by omega⟩
 exact h1.trans (by rw[show t+d+1=t+1+d by omega];exact zJB M y W (t+1) d)
theorem fitsTo_in{M:Mask}{y:List Int}{W t N:Nat}{pre:List (List Int)}{x:List Int}{f:FitT}(ht:t<N+1)(hp:pre++[x] <+: comb W t 0)(hf:fitF M y x=some f):
 (zBX M y W t++pre.filterMap (fitF M y))++[f] <+: zBX M y W (N+1):=by
 have e:(zBX M y W t++pre.filterMap (fitF M y))++[f]=zBX M y W t++(pre++[x]).filterMap (fitF M y):=by
  simp[List.filterMap_append,hf]
 rw[e]
 exact zOE ht hp
theorem FitV.own{lo lo2:Nat}{S:Nat->Prop}{f:FitT}{v:Value}{A B:World}(h:FitV lo (fun _=>False) f v A)(hb:Below A.heap.size A B)(hl:lo2<=lo)(hS:∀q,S q->q<lo):FitV lo2 S f v B:=by
 obtain⟨pa,pn,pc,va,vn,vc,e,h1,h2,h3,h4,h5,h6,h7,h8⟩:=h
 refine⟨pa,pn,pc,va,vn,vc,e,h1,h2,h3,h4,h5.below hb,h6.below hb,fun b o e=>?_,fun b o e=>?_⟩
 ·obtain⟨g1,g2,_,c,z,g4⟩:=h7 b o e
  exact⟨Nat.le_trans hl g1,Nat.lt_of_lt_of_le g2 hb.size,fun h=>by have:=hS b h;omega,c,z,(hb.block b g2).trans g4⟩
 ·obtain⟨g1,g2,_,c,z,g4⟩:=h8 b o e
  exact⟨Nat.le_trans hl g1,Nat.lt_of_lt_of_le g2 hb.size,fun h=>by have:=hS b h;omega,c,z,(hb.block b g2).trans g4⟩
theorem fits_iter(w0:World)(fp:Nat->Prop)(k kb qb:Nat)(a a2:Option Addr)(n cap n2 cap2:Nat)(M:Mask)(y:List Int)(hn:M.length=n)(hn2:y.length=n2)(hm:n<=maxLen)(hm2:n2<=maxLen)(h1:1<=n)(hW:zAC M<=1000)(hk:k<=1000)
 (hfp:∀q,fp q->q<w0.heap.size)(hkb:fp kb)(hqb:fp qb)(hck:w0.cell? ⟨kb,0,none⟩=some (.int .i64 k))(hcq:w0.heap[qb]? =some (.cells #[.slice a n cap,.slice a2 n2 cap2] 216 (0,0)))
 (hR:∀X:World,w0.heap.size<=X.heap.size->(∀q,fp q->X.heap[q]? =w0.heap[q]?)->zAN X a M∧zAI X a2 y):
 IterS Tryz.prog 254 #[.pointer (some ⟨kb,0,none⟩),.pointer (some ⟨qb,0,none⟩)] FitV (zBM M y k) fp w0:=by
 intro l J Jx W hb hJx hJ hY h0
 have hkW:kb<W.heap.size:=Nat.lt_of_lt_of_le (hfp _ hkb) hb.size
 have hqW:qb<W.heap.size:=Nat.lt_of_lt_of_le (hfp _ hqb) hb.size
 have hFW:∀q,fp q->W.heap[q]? =w0.heap[q]? :=fun q hq=>hb.block q (hfp q hq)
 have HJ:=hid hJ
 have HJx:=hid hJx
 have HY:=hid hY
 have H0:=hid h0
 have HFW:=hid hFW
 have HR:=hid hR
 have HFP:=hid hfp
 have HB:=hid hb
 have HK:=hid (show ∀X:World,(∀q,fp q->X.heap[q]? =w0.heap[q]?)->X.cell? ⟨kb,0,none⟩=some (.int .i64 k)from fun X hX=>(World.cell?_of_block (a:=⟨kb,0,none⟩) (hX kb hkb)).trans hck)
 have HQ:=hid (show ∀X:World,(∀q,fp q->X.heap[q]? =w0.heap[q]?)->X.heap[qb]? =some (.cells #[.slice a n cap,.slice a2 n2 cap2] 216 (0,0))from fun X hX=>(hX qb hqb).trans hcq)
 clear hJ hJx hY h0 hFW hck hcq hR hfp hb hkb hqb
 refine callsIn_of_wp_marks Tryz.func254 rfl trivial ?_ rfl
 simp only[Tryz.ntmps254,List.size_toArray,List.length_cons,List.length_nil,Nat.reduceAdd,Nat.reduceSub,Array.replicate_succ,Array.replicate_zero,List.push_toArray,List.append_toArray,List.nil_append,List.cons_append]
 gi_wp2
 obtain⟨w1,hw1⟩:=exq (W.alloc (.cells #[.func (.yield l) #[] #[]] 233))
 rw[<- hw1]
 have hs1:w1.heap.size=W.heap.size+1:=by rw[hw1];simp
 have hF1:∀q,fp q->w1.heap[q]? =w0.heap[q]? :=fun q hq=>by
  rw[hw1,Below.heap_alloc _ _ _ (Nat.lt_of_lt_of_le (HFP.out q hq) HB.out.size)];exact HFW.out q hq
 have hc1:w1.cell? ⟨W.heap.size,0,none⟩=some (.func (.yield l) #[] #[]):=by rw[hw1,World.cell?_alloc_at _ _ _ _ rfl];rfl
 have HB1:=hid (show Below W.heap.size W w1 by rw[hw1];exact(Below.refl _ _).alloc (Nat.le_refl _) _)
 obtain⟨w2,hw2⟩:=exq (w1.drew)
 have HF1:=hid hF1
 have HC1:=hid hc1
 have HS1:=hid hs1
 clear hs1 hF1 hc1
 refine wide_regionK (fun j w'=>decide (j<9)=true->(∀q,q<W.heap.size+1->w'.heap[q]? =w1.heap[q]?)∧W.heap.size+1<=w'.heap.size∧w'.cell? ⟨kb,0,none⟩=some (.int .i64 k)∧w'.cell? ⟨qb,0,none⟩=some (.slice a n cap)∧w'.cell? ⟨qb,1,none⟩=some (.slice a2 n2 cap2)) 0 (by kernel_rfl) ?_
 rw[<- hw2]
 have hF2:∀q,fp q->w2.heap[q]? =w0.heap[q]? :=fun q hq=>by rw[hw2];exact HF1.out q hq
 have HS:=hid (show ∀X:World,(∀q,q<W.heap.size+1->X.heap[q]? =w1.heap[q]?)->W.heap.size+1<=X.heap.size->(∀q,q<W.heap.size+1->X.heap[q]? =w1.heap[q]?)∧W.heap.size+1<=X.heap.size∧X.cell? ⟨kb,0,none⟩=some (.int .i64 k)∧X.cell? ⟨qb,0,none⟩=some (.slice a n cap)∧X.cell? ⟨qb,1,none⟩=some (.slice a2 n2 cap2)from fun X hX hs=>by
  have hF:∀q,fp q->X.heap[q]? =w0.heap[q]? :=fun q hq=>(hX q (by have:=HFP.out q hq;have:=HB.out.size;omega)).trans (HF1.out q hq)
  have hq:=HQ.out X hF
  exact⟨hX,hs,HK.out X hF,by simp[World.cell?,hq],by simp[World.cell?,hq]⟩)
 have h2:=HS.out w2 (fun q _=>by rw[hw2];rfl) (by rw[hw2];exact Nat.le_of_eq HS1.out.symm)
 refine AnyT.tD (i:=0) (v:=.int .i64 k) rfl rfl (by rintro w' ⟨_,_,q5,q6,q7⟩;go_simp) h2 ?_;go_frame
 refine AnyT.tD (i:=1) (v:=.agg #[.slice a n cap,.slice a2 n2 cap2]) rfl rfl (by rintro w' ⟨_,_,q5,q6,q7⟩;go_simp) h2 ?_;go_frame
 refine AnyT.tD (i:=3) (v:=.pointer (some ⟨qb,0,none⟩)) rfl rfl (by rintro w' q5;go_simp) h2 ?_;go_frame
 refine AnyT.tD (i:=4) (v:=.slice a n cap) rfl rfl (by rintro w' ⟨_,_,q5,q6,q7⟩;go_simp) h2 ?_;go_frame
 refine AnyT.tD (i:=5) (v:=.int .i64 n) rfl rfl (by rintro w' q5;go_simp) h2 ?_;go_frame
 refine AnyT.tD (i:=8) (v:=.int .i64 0) rfl rfl (by rintro w' q5;go_simp) h2 ?_;go_frame
 refine AnyT.nx (i:=2) rfl ?_
 have HPX:=hid (fun(X:World) (h:zAN X a M)=>qpixels_c X a a2 n cap n2 cap2 M hn h1 h)
 have HR2:=hid (show zAN w2 a M from(HR.out w2 (Nat.le_trans HB.out.size (Nat.le_trans (Nat.le_succ _) h2.2.1)) hF2).1)
 have hB2:Below W.heap.size W w2:=by rw[hw2];exact HB1.out.drew
 clear hF2 hw2 hw1
 go_wp2_with (go_at_call 255;go_loud (refine(HPX.out w2 HR2.out).mono ?_;rintro e w3 ⟨rfl,hb3⟩;refine Stop.of ?_))
 refine Stop.go ?_
 have h3:=HS.out w3 (fun q hq=>(hb3.block q (Nat.lt_of_lt_of_le hq h2.2.1)).trans (h2.1 q hq)) (Nat.le_trans h2.2.1 hb3.size)
 go_wp2
 refine⟨fun _=>h3,?_⟩
 obtain⟨Wn,hWn⟩:=exq (zAC M)
 rw[<- hWn]at hW⊢
 obtain⟨N,hN⟩:∃N:Nat,N=min (min k Wn) n:=⟨_,rfl⟩
 have HN:=hid (show zBM M y k=zBX M y Wn (N+1)by rw[hN,hWn,<- hn];rfl)
 have HWn:=hid hWn
 have hNc:min (min (k:Int) (Wn:Int)) (n:Int)=(N:Int):=by omega
 have HNC:=hid hNc
 have HN1:=hid (show N<=1000 by omega)
 clear hNc hN hWn
 refine AnyT.tD (i:=6) (v:=.int .i64 N) rfl rfl (by rintro w' hw';go_simp;rw[run_min3,HNC.out];rfl) h3 ?_;go_frame
 have HW9:=hid (show IntKind.i64.wrap ((N:Int)+1)=(N:Int)+1 from IntWalk.i64_in _ (by have:=HN1.out;omega))
 refine AnyT.tD (i:=7) (v:=.int .i64 ((N:Int)+1)) rfl rfl (by rintro w' hw';go_simp;exact HW9.out) h3 ?_;go_frame
 refine⟨by kernel_rfl,?_⟩
 have H3:=hid h3
 have HB3:=hid (zAA hB2 hb3)
 clear h2 h3 hB2 hb3
 gi_wp2
 obtain⟨I,hI⟩:∃I:Act->World->Prop,I=(fun a' X=>∃(u4 u5 u6 u7 u8 u9 u10 u11 u12 u13 u14 u17 u18 u19 u20 u21 u22 u23 u24 u25 u26 u27 u28 u29 u30 u31 u32 u33 u34 u35 u36 u37:Value),∃(t:Nat) (S:Nat->Prop) (hs:List Nat),t<=N+1∧FitsI w0 fp l J W.heap.size (zBX M y Wn t) S hs X∧(∀k,S k->k<X.heap.size)∧hs.Nodup∧
  a'=⟨#[.func (.yield l) #[] #[],.pointer (some ⟨kb,0,none⟩),.pointer (some ⟨qb,0,none⟩),.pointer (some ⟨W.heap.size,0,none⟩),u4,u5,u6,u7,u8,u9,u10,u11,u12,u13,u14,.int .i64 ((N:Int)+1),.int .i64 t,u17,u18,u19,u20,u21,u22,u23,u24,u25,u26,u27,u28,u29,u30,u31,u32,u33,u34,u35,u36,u37],markL hs⟩):=⟨_,rfl⟩
 have HI:=hid hI
 clear hI
 obtain⟨mu,hmu⟩:∃mu:Act->World->Nat,mu=(fun a' _=>N+1-(intOf (a'.tmps.getD 16 undef)).toNat):=⟨_,rfl⟩
 have HMU:=hid hmu
 clear hmu
 refine wpIn_loop I mu ?_ ?_
 ·rw[HI.out]
  refine⟨_,_,_,_,_,_,_,_,_,_,_,_,_,_,_,_,_,_,_,_,_,_,_,_,_,_,_,_,_,_,_,_,0,(fun q=>q=W.heap.size),[],Nat.zero_le _,?_,?_,List.nodup_nil,rfl⟩
  ·refine⟨?_,?_,rfl,?_,?_,?_,?_⟩
   ·exact HJ.out _ _ _ _ _ H0.out (fun _ h=>h.elim) (fun q hq=>.inr (Nat.le_of_eq (Eq.symm hq))) (Keep.of_below HB3.out)
   ·intro q hq;exact Nat.le_of_eq (Eq.symm hq)
   ·exact(World.cell?_of_block (a:=⟨W.heap.size,0,none⟩) (H3.out.1 _ (Nat.lt_succ_self _))).trans HC1.out
   ·intro q hq
    have hql:=Nat.lt_of_lt_of_le (HFP.out q hq) HB.out.size
    exact⟨hql,(H3.out.1 q (Nat.lt_succ_of_lt hql)).trans (HF1.out q hq)⟩
   ·exact H3.out.2.1
   ·intro h hh;cases hh
  ·intro q hq;rw[hq];exact H3.out.2.1
 ·intro a' X hIX
  rw[HI.out]at hIX
  obtain⟨u4,hIX⟩:=hIX;obtain⟨u5,hIX⟩:=hIX;obtain⟨u6,hIX⟩:=hIX;obtain⟨u7,hIX⟩:=hIX;obtain⟨u8,hIX⟩:=hIX;obtain⟨u9,hIX⟩:=hIX;obtain⟨u10,hIX⟩:=hIX;obtain⟨u11,hIX⟩:=hIX;obtain⟨u12,hIX⟩:=hIX;obtain⟨u13,hIX⟩:=hIX;obtain⟨u14,hIX⟩:=hIX;obtain⟨u17,hIX⟩:=hIX;obtain⟨u18,hIX⟩:=hIX;obtain⟨u19,hIX⟩:=hIX;obtain⟨u20,hIX⟩:=hIX;obtain⟨u21,hIX⟩:=hIX;obtain⟨u22,hIX⟩:=hIX;obtain⟨u23,hIX⟩:=hIX;obtain⟨u24,hIX⟩:=hIX;obtain⟨u25,hIX⟩:=hIX;obtain⟨u26,hIX⟩:=hIX;obtain⟨u27,hIX⟩:=hIX;obtain⟨u28,hIX⟩:=hIX;obtain⟨u29,hIX⟩:=hIX;obtain⟨u30,hIX⟩:=hIX;obtain⟨u31,hIX⟩:=hIX;obtain⟨u32,hIX⟩:=hIX;obtain⟨u33,hIX⟩:=hIX;obtain⟨u34,hIX⟩:=hIX;obtain⟨u35,hIX⟩:=hIX;obtain⟨u36,hIX⟩:=hIX;obtain⟨u37,hIX⟩:=hIX
  obtain⟨t,S,hs,ht,hX,hSX,hnd,rfl⟩:=hIX
  have HX:=hid hX
  have HSX:=hid hSX
  have HND:=hid hnd
  by_cases hlt:t<N+1
  ·have hlt':(t:Int)<(N:Int)+1:=by omega
   have hXF:∀q,fp q->X.heap[q]? =w0.heap[q]? :=fun q hq=>(hX.f q hq).2
   have hXz:W.heap.size<X.heap.size:=hX.z
   have hq0:X.cell? ⟨qb,0,none⟩=some (.slice a n cap):=by have hq:=HQ.out X hXF;simp[World.cell?,hq]
   have hq1:X.cell? ⟨qb,1,none⟩=some (.slice a2 n2 cap2):=by have hq:=HQ.out X hXF;simp[World.cell?,hq]
   have HPQ:=hid (HPX.out X (HR.out X (Nat.le_trans HB.out.size (Nat.le_of_lt hXz)) hXF).1)
   clear hX hSX hnd hXF
   gi_wp2_with (refine⟨trivial,rfl,?_⟩;gi_at_call 255;refine(callsIn_wide.2 HPQ.out).mono ?_;rintro e Y ⟨rfl,hbY⟩;refine Stop.of ?_)
   refine Stop.go ?_
   rw[<- HWn.out]
   gi_wp2_with (refine⟨trivial,rfl,?_⟩;gi_at_call 178;refine(callsIn_wide.2 (sets_c _ _ _)).mono ?_;rintro e w' ⟨rfl,rfl⟩;refine Stop.of ?_)
   refine Stop.go ?_
   obtain⟨wL,hwL⟩:=exq ((Y.alloc (.cells #[.int .i64 Wn] 3)).alloc (.cells #[.int .i64 t] 3))
   have hsz:wL.heap.size=Y.heap.size+2:=by rw[hwL];simp
   have hbL:Below Y.heap.size Y wL:=by rw[hwL];exact((Below.refl _ Y).alloc (Nat.le_refl _) _).alloc (by simp) _
   have hZ0:Boxed wL Y.heap.size 3 (.int .i64 Wn):=by rw[hwL];exact(Boxed.new Y 3 (.int .i64 (Wn:Int))).alloc _
   have hZ1:Boxed wL (Y.heap.size+1) 3 (.int .i64 (t:Int)):=by
    rw[hwL]
    have h1:=Boxed.new (Y.alloc (.cells #[.int .i64 (Wn:Int)] 3)) 3 (.int .i64 (t:Int))
    rwa [World.size_alloc]at h1
   have hF0:=hZ1.cell
   have hF1:=hZ0.cell
   rw[<- hwL]
   have hbXL:=zAA hbY hbL
   have HBXL:=hid hbXL
   have HSZ:=hid hsz
   have hXY:=hbY.size
   have HXY:=hid hXY
   clear hwL hq0 hq1 hZ0 hZ1 hbXL hbY
   have ht1k:t<=1000:=by have:=HN1.out;omega
   gi_wp2
   obtain⟨T,hT⟩:∃T:(Nat->Prop)->Nat->Prop,T=fun Sr q=>S q∨q=Y.heap.size∨q=Y.heap.size+1∨q=wL.heap.size∨q=wL.heap.size+1∨Sr q:=⟨_,rfl⟩
   refine range_s (gf:=222) (lb:=#[.pointer (some ⟨Y.heap.size+1,0,none⟩),.pointer (some ⟨Y.heap.size,0,none⟩)]) (xs:=comb Wn t 0) (fp:=fun k=>k=Y.heap.size+1∨k=Y.heap.size) (V:=SetV) rfl (enters_of Tryz.func222 (by kernel_rfl) rfl)
    (iter_setsS wL Wn t (Y.heap.size+1) Y.heap.size hW ht1k (by omega) (by omega) hF0 hF1) (Below.refl _ _) (by intro k hk;omega)
    (fun Sr pre Z=>FitsI w0 fp l J W.heap.size (zBX M y Wn t++pre.filterMap (fitF M y)) (T Sr) hs Z)
    (fun Sr c pre Z=>c=.ret∧FitsI w0 fp l Jx W.heap.size (zBX M y Wn t++pre.filterMap (fitF M y)) (T Sr) hs Z) ?hI ?hIx ?hV ?h0 (fun v a' Z=>a'={tmps:=#[.func (.yield l) #[] #[],.pointer (some ⟨kb,0,none⟩),.pointer (some ⟨qb,0,none⟩),.pointer (some ⟨W.heap.size,0,none⟩),.int .i64 t,v,u6,u7,u8,u9,u10,u11,u12,u13,u14,.int .i64 ((N:Int)+1),.int .i64 t,.bool true,.int .i64 t,.agg #[.slice a n cap,.slice a2 n2 cap2],.int .i64 Wn,.int .i64 t,.func (.func 222) #[] #[.pointer (some ⟨Y.heap.size+1,0,none⟩),.pointer (some ⟨Y.heap.size,0,none⟩)],v,u24,u25,u26,u27,u28,u29,u30,u31,u32,u33,u34,u35,u36,u37],defers:=[]}) ?hAx ?hassign ?hbody ?hdone ?hstop
   case hI=>
    intro Sr Sr' s A B hIA h1 h2 h3 h4 hk
    refine hIA.keep HJ.out ?_ ?_ hk ?_ ?_ ?_
    ·rw[hT];rintro q (h|h|h|h|h|h)<;>simp[h,h1]
    ·rw[hT];rintro q (h|h|h|h|h|h)
     ·exact .inl (.inl h)
     ·exact .inl (.inr (.inl h))
     ·exact .inl (.inr (.inr (.inl h)))
     ·exact .inl (.inr (.inr (.inr (.inl h))))
     ·exact .inl (.inr (.inr (.inr (.inr (.inl h)))))
     ·rcases h2 q h with h|h
      ·exact .inl (.inr (.inr (.inr (.inr (.inr h)))))
      ·exact .inr h
    ·rw[hT];intro q _ hq;simp only[not_or]at hq;exact⟨hq.2.2.2.1,hq.2.2.2.2.1,hq.2.2.2.2.2⟩
    ·exact⟨by omega,by omega,fun h=>by have:=h3 _ h;omega⟩
    ·intro q hq
     have:=HSX.out q (HX.out.m q hq).1
     exact⟨by omega,by omega,fun h=>by have:=h3 _ h;omega⟩
   case hIx=>
    rintro Sr Sr' c s A B ⟨hc,hIA⟩ h1 h2 h3 h4 hk
    refine⟨hc,hIA.keep HJx.out ?_ ?_ hk ?_ ?_ ?_⟩
    ·rw[hT];rintro q (h|h|h|h|h|h)<;>simp[h,h1]
    ·rw[hT];rintro q (h|h|h|h|h|h)
     ·exact .inl (.inl h)
     ·exact .inl (.inr (.inl h))
     ·exact .inl (.inr (.inr (.inl h)))
     ·exact .inl (.inr (.inr (.inr (.inl h))))
     ·exact .inl (.inr (.inr (.inr (.inr (.inl h)))))
     ·rcases h2 q h with h|h
      ·exact .inl (.inr (.inr (.inr (.inr (.inr h)))))
      ·exact .inr h
    ·rw[hT];intro q _ hq;simp only[not_or]at hq;exact⟨hq.2.2.2.1,hq.2.2.2.2.1,hq.2.2.2.2.2⟩
    ·exact⟨by omega,by omega,fun h=>by have:=h3 _ h;omega⟩
    ·intro q hq
     have:=HSX.out q (HX.out.m q hq).1
     exact⟨by omega,by omega,fun h=>by have:=h3 _ h;omega⟩
   case hV=>
    intro Sr x v A B hv hk
    exact hv.keep hk (fun k hk=>⟨by omega,by omega⟩)
   case h0=>
    intro Z hk hZ
    rw[List.filterMap_nil,List.append_nil]
    refine HX.out.keep HJ.out ?_ ?_ ((Keep.of_below HBXL.out).trans hk) ?_ ?_ ?_
    ·rw[hT];intro q h;simp[h]
    ·rw[hT];rintro q (h|h|h|h|h|h)
     ·exact .inl h
     ·exact .inr (by omega)
     ·exact .inr (by omega)
     ·exact .inr (by omega)
     ·exact .inr (by omega)
     ·exact h.elim
    ·intro q hq _;omega
    ·omega
    ·intro q hq
     have:=HSX.out q (HX.out.m q hq).1
     omega
   case hAx=>
    intro v a' A B h _;exact h
   case hassign=>
    intro l' Sr x v Z K hZ hv hK
    gi_wp2
    exact hK _ _ (Below.refl _ _) rfl
   case hbody=>
    rintro l' Sr pre x v _ Z hpre hSr hIZ hv rfl hZ _ _
    obtain⟨xa,xc,rfl,hxi,hxb⟩:=hv
    have hxm:x∈comb Wn t 0:=hpre.subset (by simp)
    have hxl:x.length=t:=zDD _ _ _ x hxm
    have hZF:∀q,fp q->Z.heap[q]? =w0.heap[q]? :=fun q hq=>(hIZ.f q hq).2
    have hZz:W.heap.size<Z.heap.size:=hIZ.z
    have hzq0:Z.cell? ⟨qb,0,none⟩=some (.slice a n cap):=by have hq:=HQ.out Z hZF;simp[World.cell?,hq]
    have hzq1:Z.cell? ⟨qb,1,none⟩=some (.slice a2 n2 cap2):=by have hq:=HQ.out Z hZF;simp[World.cell?,hq]
    have hzy:Z.cell? ⟨W.heap.size,0,none⟩=some (.func (.yield l) #[] #[]):=hIZ.c
    obtain⟨hRZ,hIY⟩:=HR.out Z (Nat.le_trans HB.out.size (Nat.le_of_lt hZz)) hZF
    have HFIT:=hid (fit_c Z a a2 xa n cap n2 cap2 x.length xc M y x hn hn2 rfl hm hm2 (by rw[hxl];exact ht1k) hRZ hIY hxi)
    have HIZ:=hid hIZ
    have HT:=hid hT
    have HSR:=hid hSr
    have HPRE:=hid hpre
    have hYs:=hbL.size
    have HTB:=hid (show ∀q,T Sr q->q<Z.heap.size by
     rw[hT];rintro q (h|h|h|h|h|h)
     ·have:=HSX.out q h;omega
     ·omega
     ·omega
     ·omega
     ·omega
     ·exact(hSr q h).2)
    clear hYs
    have hqZ:qb<Z.heap.size:=World.block_lt_of_cell? Z ⟨qb,0,none⟩ hzq0
    clear hRZ hIY hIZ hT hSr hpre hxm hxl hZF hxi hxb hF0 hF1
    cases hF:fitF M y x with
    |none=>
     rw[hF]at HFIT
     have HF:=hid hF
     clear hF
     gi_wp2_with (refine⟨trivial,rfl,?_⟩;gi_at_call 256;refine(CallsIn.inRound l' (callsIn_wide.2 HFIT.out)).mono ?_;rintro e Z2 ⟨⟨_,rfl⟩|⟨f,fv,hso,_⟩,hb2⟩;rotate_left;cases hso;refine Stop.of ?_)
     refine Stop.go ?_
     gi_wp2
     refine⟨fun _ h=>(by cases h),?_⟩
     gi_wp2
     have hbF:=zAA hb2 ((Below.refl Z2.heap.size Z2).alloc (Nat.le_refl _) (.cells #[.slice none 0 0,.slice none 0 0] 73))
     refine⟨hbF.size,fun q hq=>hbF.block q (HTB.out q (by rw[HT.out];exact .inr (by rcases hq with (hq|hq)|hq|hq|hq<;>simp[hq]))),?_⟩
     show FitsI w0 fp l J W.heap.size (zBX M y Wn t++(pre++[x]).filterMap (fitF M y)) (T Sr) hs _
     rw[List.filterMap_append,List.filterMap_cons_none HF.out,List.filterMap_nil,List.append_nil]
     exact HIZ.out.keep HJ.out (fun _ h=>h) (fun _ h=>.inl h) (Keep.of_below hbF:Keep (fun _=>True) Z _) (fun _ _ _=>trivial) trivial (fun _ _=>trivial)
    |some f=>
     rw[hF]at HFIT
     have HF:=hid hF
     clear hF
     gi_wp2_with (refine⟨trivial,rfl,?_⟩;gi_at_call 256;refine(CallsIn.inRound l' (callsIn_wide.2 HFIT.out)).mono ?_;rintro e Z2 ⟨⟨hno,_⟩|⟨f',fv,hso,rfl,hfv⟩,hb2⟩;cases hno;refine Stop.of ?_)
     refine Stop.go ?_
     obtain rfl:f=f':=by cases hso;rfl
     clear hso
     have HFV:=hid hfv
     obtain⟨pa,pn,pc,va,vn,vc,rfl,_,_,_,_,_,_,_,_⟩:=hfv
     have hy2:Z2.cell? ⟨W.heap.size,0,none⟩=some (.func (.yield l) #[] #[]):=(hb2.cell (p:=⟨W.heap.size,0,none⟩) hZz).trans hzy
     have hyl:W.heap.size<Z2.heap.size:=Nat.lt_of_lt_of_le hZz hb2.size
     have hb3:=zAA hb2 ((Below.refl Z2.heap.size Z2).alloc (Nat.le_refl _) (.cells #[.slice pa pn pc,.slice va vn vc] 73))
     have hyk:=HY.out (T Sr) (zBX M y Wn t++pre.filterMap (fitF M y)) f (.agg #[.slice pa pn pc,.slice va vn vc]) (Z2.alloc (.cells #[.slice pa pn pc,.slice va vn vc] 73))
      (by rw[HN.out];exact fitsTo_in hlt HPRE.out HF.out) (fun q hq=>⟨HIZ.out.s q hq,Nat.lt_of_lt_of_le (HTB.out q hq) hb3.size⟩) (Nat.le_trans (Nat.le_of_lt hZz) hb3.size)
      (HJ.out _ _ _ _ _ HIZ.out.j (fun _ h=>h) (fun _ h=>.inl h) (Keep.of_below hb3)) (HFV.out.own ((Below.refl _ _).alloc (Nat.le_refl _) _) (Nat.le_of_lt hZz) HTB.out)
     have HB3':=hid hb3
     clear hb2 hb3
     obtain⟨fn,tmps,assign,body,hy,hR'⟩:=hyk
     gi_wp2
     refine⟨rfl,hR'.mono ?_⟩
     clear hR' hy
     rintro e W3 ⟨⟨hs3,hk3⟩,⟨rfl,hJ3⟩|⟨rfl,hJ3⟩⟩
     ·gi_wp2
      refine⟨Nat.le_trans HB3'.out.size hs3,fun q hq=>?_,?_⟩
      ·have hq':T Sr q:=by rw[HT.out];exact .inr (by rcases hq with (hq|hq)|hq|hq|hq<;>simp[hq])
       exact(hk3 q (.inr hq')).trans (HB3'.out.block q (HTB.out q hq'))
      ·show FitsI w0 fp l J W.heap.size (zBX M y Wn t++(pre++[x]).filterMap (fitF M y)) (T Sr) hs _
       rw[List.filterMap_append,List.filterMap_cons_some HF.out,List.filterMap_nil,<- List.append_assoc]
       exact HIZ.out.step HTB.out HB3'.out hs3 hk3 hJ3
     ·gi_wp2
      refine⟨Nat.le_trans HB3'.out.size hs3,fun q hq=>?_,rfl,?_⟩
      ·have hq':T Sr q:=by rw[HT.out];exact .inr (by rcases hq with (hq|hq)|hq|hq|hq<;>simp[hq])
       exact(hk3 q (.inr hq')).trans (HB3'.out.block q (HTB.out q hq'))
      ·show FitsI w0 fp l Jx W.heap.size (zBX M y Wn t++(pre++[x]).filterMap (fitF M y)) (T Sr) hs _
       rw[List.filterMap_append,List.filterMap_cons_some HF.out,List.filterMap_nil,<- List.append_assoc]
       exact HIZ.out.step HTB.out HB3'.out hs3 hk3 hJ3
   case hdone=>
    intro Sr Z hZ hSr hIZ hmk
    have HIZ:=hid hIZ
    have HSR:=hid hSr
    have HMK:=hid hmk
    have HT:=hid hT
    have hYs:=hbL.size
    have HTB:=hid (show ∀q,T Sr q->q<Z.heap.size by
     rw[hT];rintro q (h|h|h|h|h|h)
     ·have:=HSX.out q h;omega
     ·omega
     ·omega
     ·omega
     ·omega
     ·exact(hSr q h).2)
    have HNN:=hid (show wL.heap.size∉hs from fun h=>by have:=HSX.out _ (HX.out.m _ h).1;omega)
    clear hIZ hSr hmk hT hF0 hF1 hYs
    gi_wp2
    rw[HI.out,HMU.out]
    refine⟨⟨_,_,_,_,_,_,_,_,_,_,_,_,_,_,_,_,_,_,_,_,_,_,_,_,_,_,_,_,_,_,_,_,t+1,T Sr,wL.heap.size::hs,hlt,?_,HTB.out,List.nodup_cons.2 ⟨HNN.out,HND.out⟩,by first|rfl| (rw[cast1 t];rfl)⟩,?_⟩
    ·rw[zCN]
     refine⟨HIZ.out.j,HIZ.out.s,HIZ.out.y,HIZ.out.c,HIZ.out.f,HIZ.out.z,fun q hq=>?_⟩
     rcases List.mem_cons.1 hq with rfl|hq
     ·exact⟨by rw[HT.out];simp,HMK.out⟩
     ·exact HIZ.out.m q hq
    ·show N+1-(intOf (.int .i64 ((t:Int)+1))).toNat<N+1-(intOf (.int .i64 (t:Int))).toNat
     simp only[intOf];omega
   case hstop=>
    rintro Sr c pre Z hpre hSr ⟨rfl,hIZ⟩ hmk
    have HIZ:=hid hIZ
    have HMK:=hid hmk
    have HT:=hid hT
    have HPRE:=hid hpre
    have HNN:=hid (show wL.heap.size∉hs from fun h=>by have:=HSX.out _ (HX.out.m _ h).1;have:=hbL.size;omega)
    clear hIZ hSr hmk hT hF0 hF1 hpre
    gi_wp2
    refine zGC (wL.heap.size::hs) Z (List.nodup_cons.2 ⟨HNN.out,HND.out⟩) (fun h hh=>?_) fun w' hk=>?_
    ·rcases List.mem_cons.1 hh with rfl|hh
     ·exact HMK.out
     ·exact(HIZ.out.m h hh).2
    ·refine⟨_,results_none rfl _ _ _,⟨_,rfl⟩,.inr ⟨T Sr,_,?_,HJx.out _ _ _ _ _ HIZ.out.j (fun _ h=>h) (fun _ h=>.inl h) (hk.mono fun q hq hh=>?_)⟩⟩
     ·rw[HN.out]
      exact zOE hlt HPRE.out
     ·rcases List.mem_cons.1 hh with rfl|hh
      ·exact hq (by rw[HT.out];simp)
      ·exact hq (HIZ.out.m q hh).1
  ·obtain rfl:t=N+1:=by omega
   clear hX hSX hnd
   gi_wp2
   refine zGC hs X HND.out (fun h hh=>(HX.out.m h hh).2) fun w' hk=>?_
   refine⟨_,results_none rfl _ _ _,⟨_,rfl⟩,.inl ⟨S,fun q hq=>⟨HX.out.s q hq,Nat.lt_of_lt_of_le (HSX.out q hq) hk.size⟩,?_⟩⟩
   rw[HN.out]
   exact HJ.out _ _ _ _ _ HX.out.j (fun _ h=>h) (fun _ h=>.inl h) (hk.mono fun q hq hh=>hq (HX.out.m q hh).1)
end
section
open Go.RowKit
theorem qfits_c(w:World)(a a2:Option Addr)(n cap n2 cap2:Nat)(k:Int):
 Calls Tryz.prog 234 #[.agg #[.slice a n cap,.slice a2 n2 cap2],.int .i64 k] w fun e w'=>
  e=.returned (.func (.func 254) #[] #[.pointer (some ⟨w.heap.size+1,0,none⟩),.pointer (some ⟨w.heap.size,0,none⟩)])∧
  w'=(w.alloc (.cells #[.slice a n cap,.slice a2 n2 cap2] 216)).alloc (.cells #[.int .i64 k] 3):=by
 have hmf:∀(fn:Fn) (first cap:Array Value) (w:World),(Instr.makeFunc fn first cap).run Tryz.prog w=.ok (.func fn first cap) w:=fun _ _ _ _=>rfl
 go_enter Tryz.func234,Tryz.ntmps234
 go_wp2
 go_ret
 exact⟨rfl,rfl⟩
def zFW(M:Mask)(y:List Int)(k:Int):Int:=if zAU M y []=0 then(if inB k 0 10=true then 0 else 7)else zAU M y []
theorem counted_c(w:World)(a a2:Option Addr)(n cap n2 cap2:Nat)(M:Mask)(y:List Int)(k:Int)(hn:M.length=n)(hn2:y.length=n2)(hm:n<=maxLen)(hm2:n2<=maxLen)(H:zAN w a M)(H2:zAI w a2 y):
 Calls Tryz.prog 232 #[.slice a n cap,.slice a2 n2 cap2,.int .i64 k] w fun e w'=>e=.returned (.int .i64 (zFW M y k))∧Below w.heap.size w w':=by
 have HC:=hid (zKM w a a2 none n cap n2 cap2 0 0 M y [] hn hn2 rfl hm hm2 (by decide) H H2 (fun j hj=>by simp at hj))
 have HW:=hid (fun X=>zML k 0 10 X)
 obtain⟨E,hE⟩:=exq (zAU M y [])
 obtain⟨b,hb⟩:=exq (inB k 0 10)
 have hP:zFW M y k=if E=0 then(if b=true then 0 else 7)else E:=by rw[hE,hb];rfl
 rw[<- hE]at HC
 rw[<- hb]at HW
 rw[hP]
 clear hE hb hP hn hn2 H H2
 go_enter Tryz.func232,Tryz.ntmps232
 by_cases h0:E=0
 ·subst h0
  cases b
  all_goals
   go_wp2_with first
    | (go_at_call 101;refine HC.out.mono ?_;rintro e w1 ⟨rfl,hb1⟩)
    | (go_at_call 88;refine(HW.out _).mono ?_;rintro e w2 ⟨rfl,rfl⟩)
   go_ret
   exact⟨rfl,hb1⟩
 ·have hne:(E !=0)=true:=by simp[h0]
  rw[if_neg h0]
  clear h0
  go_wp2_with (go_at_call 101;refine HC.out.mono ?_;rintro e w1 ⟨rfl,hb1⟩)
  go_ret
  exact⟨rfl,hb1⟩
end
section
open Go.RowKit
attribute [local go_sem] Oper.semAt_some
theorem AnyT.takeDN{P:Program}{md:Region.Mode}{ops:Array Oper}{Q:Exit->Act->World->Prop}{S:World->Prop}{i d:Nat}{oi:Oper}{fuel:Nat}{listed:Array Bool}{a:Act}{w:World}{Wf:Nat->Bool}(hi:ops[i]? =some oi)(hd:oi.dst=some d)
 (hs:Region.noSelect ops=true)(hf:Region.free md ops listed i=true)(hr:(Region.ready md ops listed).contains i=true)
 (hQ:∀c a w,Q (.panic c) (a.put (some d) undef) w->Q (.panic c) a w)
 (hW:(List.range ops.size).all (fun j=>waits md ops i j||Wf j)=true)(hw:Region.wanted oi (yielded ops a.tmps)=false)(hS:S w)
 (h:AnyT P md ops Q (fun j w=>Wf j=true->S w) fuel (listed.setIfInBounds i true) (a.put (some d) undef) w):AnyT P md ops Q (fun j w=>Wf j=true->S w) (fuel+1) listed a w:=
 AnyT.take (v:=undef) hi hs hf hr (by rw[hd];exact hQ) (fun j hj w hT=>hT (by
  by_cases e:j<ops.size
  ·have:=List.all_eq_true.1 hW j (List.mem_range.2 e)
   rw[hj]at this;simpa using this
  ·unfold waits at hj;rw[Array.getElem?_eq_none (by omega)]at hj;cases hj)) (fun w hS _=>hS) (.inr ⟨hw,rfl⟩) hS (by rw[hd];exact h)
theorem zNW{R:List (List Int)}{n:Nat}(h:(zAY R n).2=0):(zAY R n).1.length=n:=by
 unfold zAY at h⊢
 simp only[]at h⊢
 split
 ·rename_i h1;rw[if_pos h1]at h;simp at h
 ·rename_i h1
  rw[if_neg h1]at h
  split
  ·rename_i h2;rw[if_pos h2]at h;simp at h
  ·simp
theorem fitF_len{M:Mask}{y S:List Int}{f:FitT}(h:fitF M y S=some f):f.1=S∧f.2.length=S.length:=by
 obtain⟨e,h0,_⟩:=zJC h
 rw[e]
 refine⟨rfl,?_⟩
 show(zCA M S y).1.length=S.length
 unfold zCA at h0⊢
 split
 ·rename_i hc
  rw[if_pos hc]at h0
  exact zNW h0
 ·rename_i hc
  rw[if_neg hc]at h0
  exact absurd h0 hc
theorem FitV.keep{lo:Nat}{S:Nat->Prop}{x:FitT}{v:Value}{A B:World}{T:Nat->Prop}(h:FitV lo S x v A)(hk:Keep T A B)(hT:∀k,lo<=k->T k):FitV lo S x v B:=by
 obtain⟨pa,pn,pc,va,vn,vc,e,h1,h2,h3,h4,h5,h6,h7,h8⟩:=h
 refine⟨pa,pn,pc,va,vn,vc,e,h1,h2,h3,h4,fun j hj=>?_,fun j hj=>?_,fun b o e=>?_,fun b o e=>?_⟩
 ·obtain⟨b,o,e2,hlt,hc⟩:=h5 j hj
  exact⟨b,o,e2,Nat.lt_of_lt_of_le hlt hk.size,hk.cell hc (hT b (h7 b o e2).1)⟩
 ·obtain⟨b,o,e2,hlt,hc,hd⟩:=h6 j hj
  exact⟨b,o,e2,Nat.lt_of_lt_of_le hlt hk.size,hk.cell hc (hT b (h8 b o e2).1),hk.cell hd (hT b (h8 b o e2).1)⟩
 ·obtain⟨g1,g2,g3,c,z,g4⟩:=h7 b o e
  exact⟨g1,Nat.lt_of_lt_of_le g2 hk.size,g3,c,z,(hk.block b g2 (hT b g1)).trans g4⟩
 ·obtain⟨g1,g2,g3,c,z,g4⟩:=h8 b o e
  exact⟨g1,Nat.lt_of_lt_of_le g2 hk.size,g3,c,z,(hk.block b g2 (hT b g1)).trans g4⟩
theorem cell_blk{W W':World}{b o:Nat}{v:Value}(h:W.cell? ⟨b,o,none⟩=some v)(hk:W'.heap[b]? =W.heap[b]?):W'.cell? ⟨b,o,none⟩=some v:=
 (World.cell?_of_block (a:=⟨b,o,none⟩) hk).trans h
theorem lt_blk{W W':World}{b:Nat}(h:b<W.heap.size)(hk:W'.heap[b]? =W.heap[b]?):b<W'.heap.size:=by
 rcases Nat.lt_or_ge b W'.heap.size with h'|h'
 ·exact h'
 ·rw[Array.getElem?_eq_none h',Array.getElem?_eq_getElem h]at hk;cases hk
theorem zAI.blk{W W':World}{a:Option Addr}{l:List Int}(h:zAI W a l)(hk:∀k,k<W.heap.size->W'.heap[k]? =W.heap[k]?):zAI W' a l:=by
 intro j hj
 obtain⟨b,off,e,hb,hc⟩:=h j hj
 exact⟨b,off,e,lt_blk hb (hk b hb),cell_blk hc (hk b hb)⟩
theorem zAN.blk{W W':World}{a:Option Addr}{l:List (List Int)}(h:zAN W a l)(hk:∀k,k<W.heap.size->W'.heap[k]? =W.heap[k]?):zAN W' a l:=by
 intro j hj
 obtain⟨b,off,ra,n,cap,e,hb,hc,h1,h2,h3⟩:=h j hj
 exact⟨b,off,ra,n,cap,e,lt_blk hb (hk b hb),cell_blk hc (hk b hb),h1,h2,h3.blk hk⟩
def ElemN(W:World)(base:Nat)(S:Nat->Prop)(u:Value)(l:List Int):Prop:=
 ∃b cap,u=.slice (some ⟨b,0,none⟩) l.length cap∧base<=b∧S b∧zBQ W b l∧l.length<=maxLen
def zPY(T:TypeId)(W:World)(base:Nat)(S:Nat->Prop)(v:Value)(ls:List (List Int)):Prop:=
 ∃vs,W.ownsRow base T 1 v ls.length vs∧(∀k,v.ownBlock=some k->S k)∧∀j (hj:j<ls.length),∃u,vs[j]? =some u∧ElemN W base S u ls[j]
theorem zPY.nil(T:TypeId)(W:World)(base:Nat)(S:Nat->Prop):zPY T W base S (.slice none 0 0) []:=
 ⟨[],World.ownsRow_nil _ _ _ _,fun k hk=>by simp[Value.ownBlock]at hk,fun j hj=>by simp at hj⟩
theorem zPY.keep{T:TypeId}{W W':World}{base:Nat}{S S' K:Nat->Prop}{v:Value}{ls:List (List Int)}(h:zPY T W base S v ls)(hk:Keep K W W')(hS:∀b,S b->b<W.heap.size->K b∧S' b):zPY T W' base S' v ls:=by
 obtain⟨vs,ho,hg,he⟩:=h
 refine⟨vs,⟨ho.1,?_⟩,fun k hk'=>?_,fun j hj=>?_⟩
 ·rcases ho.2 with hn|⟨g,cap,cur,rfl,hb,hgg,rest⟩
  ·exact .inl hn
  ·have hlt:=(Array.getElem?_eq_some_iff.1 hgg).1
   exact .inr ⟨g,cap,cur,rfl,hb,(hk.block g hlt (hS g (hg g rfl) hlt).1).trans hgg,rest⟩
 ·rcases ho.2 with⟨rfl,_⟩|⟨g,cap,cur,rfl,hb,hgg,rest⟩
  ·simp[Value.ownBlock]at hk'
  ·obtain rfl:g=k:=by simpa[Value.ownBlock]using hk'
   exact(hS g (hg g rfl) (Array.getElem?_eq_some_iff.1 hgg).1).2
 ·obtain⟨u,hu,b,cap,e,h1,h2,h3,h4⟩:=he j hj
  have:=hS b h2 h3.lt
  exact⟨u,hu,b,cap,e,h1,this.2,h3.keep (hk.block b h3.lt this.1),h4⟩
theorem zPY.snoc{T:TypeId}(hET:3≠T){W w1 w2:World}{base:Nat}{S:Nat->Prop}{v v' u:Value}{ls:List (List Int)}{l:List Int}{vs:List Value}
 (ho:W.ownsRow base T 1 v ls.length vs)(he:∀j (hj:j<ls.length),∃u,vs[j]? =some u∧ElemN W base S u ls[j])(hu:ElemN W base S u l)
 (hW1:Below W.heap.size W w1)(hg:w1.grownBy w2 v.ownBlock)(ho':w2.ownsRow base T 1 v' (ls.length+1) (vs++[u]))(hS':∀k,v'.ownBlock=some k->S k):zPY T w2 base S v' (ls++[l]):=by
 have hlen:vs.length=ls.length:=by have:=ho.1;omega
 have hel:∀u l,ElemN W base S u l->ElemN w2 base S u l:=by
  rintro u l ⟨b,cap,e,h1,h2,h3,h4⟩
  refine⟨b,cap,e,h1,h2,h3.keep ((hg.block b (Nat.lt_of_lt_of_le h3.lt hW1.size) ?_).trans (hW1.block b h3.lt)),h4⟩
  rcases ho.2 with⟨rfl,_⟩|⟨g,cap,cur,rfl,hbg,hgg,_⟩
  ·simp[Value.ownBlock]
  ·intro e
   obtain rfl:b=g:=by simpa[Value.ownBlock]using e
   obtain⟨sp,h3⟩:=h3
   rw[h3]at hgg;cases hgg;exact hET rfl
 refine⟨vs++[u],by simpa using ho',hS',fun j hj=>?_⟩
 by_cases e:j<ls.length
 ·obtain⟨u',hu',hel'⟩:=he j e
  refine⟨u',by rw[List.getElem?_append_left (by omega)];exact hu',?_⟩
  rw[List.getElem_append_left e]
  exact hel _ _ hel'
 ·have:j=ls.length:=by simp at hj;omega
  subst this
  refine⟨u,by rw[List.getElem?_append_right (by omega),hlen];simp,?_⟩
  simp only[List.getElem_append_right (Nat.le_refl _),Nat.sub_self,List.getElem_cons_zero]
  exact hel _ _ hu
structure WholeI (w w3:World) (ob:Nat) (fp:Nat->Prop) (S:Nat->Prop) (L:List (List Int)) (Z:World):Prop where
 b:Below w.heap.size w Z
 f:Keep fp w3 Z
 o:∃v,Boxed Z ob 22 v∧zPY 24 Z (w3.heap.size+2) (fun q=>¬S q∧q≠ob∧q≠w3.heap.size∧q≠w3.heap.size+1) v L
 z:w3.heap.size+2<=Z.heap.size
theorem WholeI.keep{w w3:World}{ob:Nat}{fp S S':Nat->Prop}{L:List (List Int)}{A B:World}(h:WholeI w w3 ob fp S L A)(h1:∀k,S k->S' k)(h2:∀k,S' k->S k∨A.heap.size<=k)(h3:∀k,S' k->w3.heap.size+2<=k)
 (hob:ob<w3.heap.size)(hfp:∀k,fp k->k<w3.heap.size)(hw:w.heap.size<=w3.heap.size)(hk:Keep (fun k=>k≠w3.heap.size∧k≠w3.heap.size+1∧¬S' k) A B):WholeI w w3 ob fp S' L B where
 b:=by
  have hz:=h.z
  exact hk.below h.b (Nat.le_trans hw (by omega)) (fun k hlt=>⟨by omega,by omega,fun hs=>by have:=h3 k hs;omega⟩)
 f:=h.f.trans (hk.mono fun k hlt=>by have:=hfp k hlt;exact⟨by omega,by omega,fun hs=>by have:=h3 k hs;omega⟩)
 o:=by
  obtain⟨v,hv,hr⟩:=h.o
  refine⟨v,(hk.block ob hv.lt ⟨by omega,by omega,fun hs=>by have:=h3 _ hs;omega⟩).trans hv,?_⟩
  refine zPY.keep hr hk ?_
  rintro q ⟨g1,g2,g3,g4⟩ g5
  have:¬S' q:=fun hs=>by
   rcases h2 q hs with g|g
   ·exact g1 g
   ·omega
  exact⟨⟨g3,g4,this⟩,this,g2,g3,g4⟩
 z:=Nat.le_trans h.z hk.size
theorem zFD(M:Mask)(y:List Int)(W:Nat):∀t,(zBX M y W t).length<=t*2 ^ W
 |0=>by simp[zBX]
 |t+1=>by
  rw[zCN,List.length_append]
  have h1:=zFD M y W t
  have h2:=List.length_filterMap_le (fitF M y) (comb W t 0)
  have h3:=zKI W t 0
  rw[Nat.add_mul]
  omega
theorem AnyT.tN{P:Program}{md:Region.Mode}{ops:Array Oper}{Q:Exit->Act->World->Prop}{S:World->Prop}{i d:Nat}{oi:Oper}{fuel:Nat}{listed:Array Bool}{a:Act}{w:World}{Wf:Nat->Bool}(hi:ops[i]? =some oi)(hd:oi.dst=some d)(hS:S w)
 (h:AnyT P md ops Q (fun j w=>Wf j=true->S w) fuel (listed.setIfInBounds i true) (a.put (some d) undef) w)
 (hs:Region.noSelect ops=true:=by kernel_rfl)(hf:Region.free md ops listed i=true:=by kernel_rfl)(hr:(Region.ready md ops listed).contains i=true:=by kernel_rfl)(hQ:∀c a w,Q (.panic c) (a.put (some d) undef) w->Q (.panic c) a w:=by first|exact(fun _ _ _ h=>h)|exact(fun _ _ _ h=>absurd h.1 (by simp)))(hW:(List.range ops.size).all (fun j=>waits md ops i j||Wf j)=true:=by kernel_rfl)(hw:Region.wanted oi (yielded ops a.tmps)=false:=by rfl):AnyT P md ops Q (fun j w=>Wf j=true->S w) (fuel+1) listed a w:=
 AnyT.takeDN hi hd hs hf hr hQ hW hw hS h
end
section
open Go.RowKit
def picB(M:Mask)(x:List Int):Bool:=decide (x.length=zAC M)&&x.all (fun n=>inB n (-1000) 1000)
end
section
open Go.RowKit
abbrev Frm:=Bool×List Int
def zQA(w:World)(a:Option Addr)(fs:List Frm):Prop:=
 ∀j (hj:j<fs.length),∃b off ra n cap,a=some ⟨b,off,none⟩∧b<w.heap.size∧w.cell? ⟨b,off+j*2,none⟩=some (.bool fs[j].1)∧w.cell? ⟨b,off+j*2+1,none⟩=some (.slice ra n cap)∧fs[j].2.length=n∧n<=maxLen∧zAI w ra fs[j].2
theorem zQA.below{w w':World}{a:Option Addr}{l:List Frm}(h:zQA w a l)(hb:Below w.heap.size w w'):zQA w' a l:=by
 intro j hj
 obtain⟨b,off,ra,n,cap,e,hlt,h0,h1,hn,hm,hi⟩:=h j hj
 exact⟨b,off,ra,n,cap,e,Nat.lt_of_lt_of_le hlt hb.size,(hb.cell (p:=⟨b,_,none⟩) hlt).trans h0,(hb.cell (p:=⟨b,_,none⟩) hlt).trans h1,hn,hm,hi.below hb⟩
end
section
open Go.RowKit
def FrmV(w:World)(v:Value)(f:Frm):Prop:=∃ra n cap,v=.agg #[.bool f.1,.slice ra n cap]∧f.2.length=n∧n<=maxLen∧zAI w ra f.2
theorem FrmV.below{w w':World}{v:Value}{f:Frm}(h:FrmV w v f)(hb:Below w.heap.size w w'):FrmV w' v f:=by
 obtain⟨ra,n,cap,e,hn,hm,hi⟩:=h
 exact⟨ra,n,cap,e,hn,hm,hi.below hb⟩
end
section
open Go.RowKit
def addF(r b:List Int):List Int:=(List.range r.length).map (fun i=>vec r i+vec b i)
def wholeV(M:Mask)(y:List Int)(k:Int):Option (List Int):=if zFW M y k=0 then(match wholeF M y k.toNat with| [r]=>some r|_=>none)else none
def nextF(M:Mask)(k:Int)(before:Option (List Int))(f:Frm):Option (List Int):=
 if f.2.length=0 then none else if f.1=true then some f.2 else
  match before with
  |none=>none
  |some b=>match wholeV M f.2 k with
   |none=>none
   |some r=>if picB M (addF r b)=true then some (addF r b)else none
def decAt(M:Mask)(k:Int)(fs:List Frm):Nat->Option (List Int)
 |0=>none
 |j+1=>nextF M k (decAt M k fs j) (fs[j]?.getD (false,[]))
end
section
open Go.RowKit
theorem AnyT.next2{P:Program}{md:Region.Mode}{ops:Array Oper}{Q:Exit->Act->World->Prop}{T:Nat->World->Prop}{i j:Nat}{fuel:Nat}{listed:Array Bool}{a:Act}{w:World}(hr:Region.ready md ops listed=[i,j])
 (h1:wpOp P ops Q i (fun a' w'=>T i w'∧AnyT P md ops Q T fuel (listed.setIfInBounds i true) a' w') a w)
 (h2:wpOp P ops Q j (fun a' w'=>T j w'∧AnyT P md ops Q T fuel (listed.setIfInBounds j true) a' w') a w):AnyT P md ops Q T (fuel+1) listed a w:=
 ⟨fun h0=>(by rw[hr]at h0;cases h0),fun k hk=>by
   rw[hr]at hk
   have:k=i∨k=j:=by simpa using hk
   rcases this with rfl|rfl
   ·exact h1
   ·exact h2⟩
theorem set2_block{w:World}{b:Nat}{a0 a1 v0 v1:Value}{T:TypeId}(h:w.heap[b]? =some (.cells #[a0,a1] T (0,0))):((w.setCell ⟨b,0,none⟩ v0).setCell ⟨b,1,none⟩ v1).heap[b]? =some (.cells #[v0,v1] T (0,0)):=by
 rw[zAP (zAP h 0 v0) 1 v1];rfl
theorem zBN{w:World}{b:Nat}{a0 a1:Value}{T:TypeId}(h:w.heap[b]? =some (.cells #[a0,a1] T (0,0))):
 w.cell? ⟨b,0,none⟩=some a0∧w.cell? ⟨b,1,none⟩=some a1∧w.frozen? ⟨b,0,none⟩=false∧w.frozen? ⟨b,1,none⟩=false∧b<w.heap.size:=
 ⟨by simp[World.cell?,h],by simp[World.cell?,h],by simp[World.frozen?,h],by simp[World.frozen?,h],(Array.getElem?_eq_some_iff.1 h).1⟩
theorem zPE{w:World}{base:Nat}{T:TypeId}{k n:Nat}{v:Value}{xs:List Value}(h:w.ownsRow base T k v n xs){b o:Nat}(u:Value)(hne:∀g,v.ownBlock=some g->g≠b):(w.setCell ⟨b,o,none⟩ u).ownsRow base T k v n xs:=by
 refine⟨h.1,?_⟩
 rcases h.2 with hn|⟨g,cap,cur,rfl,hbg,hgg,rest⟩
 ·exact .inl hn
 ·exact .inr ⟨g,cap,cur,rfl,hbg,(Below.heap_setCell _ _ _ _ (hne g rfl)).trans hgg,rest⟩
end
section
open Go.RowKit
theorem news_ints{wr X:World}{xa:Option Addr}{x:List Int}(hxi:zAI wr xa x)(hX:Below wr.heap.size wr X):∀ad,xa=some ad->∀j u,(x.map (Value.int .i64))[j]? =some u->X.cell? (ad.add j)=some u:=by
 intro ad e j u hu
 rw[List.getElem?_map]at hu
 obtain⟨v,hv,rfl⟩:=Option.map_eq_some_iff.1 hu
 obtain⟨hjl,e2⟩:=List.getElem?_eq_some_iff.1 hv
 obtain⟨b,off,ea,hb,hc⟩:=hxi j hjl
 rw[e]at ea
 cases ea
 rw[Addr.add_lit]
 refine(hX.cell (p:=⟨b,off+j,none⟩) hb).trans ?_
 rw[hc,hv];rfl
end
end Go.Proofs.YtlffndehhhpgjaaGreat
