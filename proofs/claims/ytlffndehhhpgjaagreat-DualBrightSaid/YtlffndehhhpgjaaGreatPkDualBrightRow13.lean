/- Walks and plain laws for DualBrightRow, part 13. -/
import Derived.WalkSmall
import Derived.Test.YtlffndehhhpgjaaGreatPkDualBrightRow12
namespace Go.Proofs.YtlffndehhhpgjaaGreat
set_option linter.unusedVariables false
set_option linter.unusedSimpArgs false
set_option maxRecDepth 100000
set_option maxHeartbeats 4000000
open _root_.List renaming getElem?_eq_getElem → yAA, all_eq_true → yAT, getElem?_map → yAZ, drop_eq_getElem_cons → yBD, mem_of_getElem? → yBM, mem_cons → yBP, setIfInBounds_toArray → yBW, set_cons_zero → yCA, mem_range → yCH, foldl_nil → yCR, mem_append → yCU, set_cons_succ → yCX, take_append_drop → yCY, foldl_cons → yDC, map_cons → yFS, filterMap_cons_some → yGN, set_eq_take_append_cons_drop → yGR, filter_cons_of_pos → yGU, filter_cons_of_neg → yGV
open _root_.Nat renaming le_refl → yAC, le_trans → yAF, lt_of_lt_of_le → yAJ, zero_le → yAK, lt_or_ge → yAP, mul_le_mul → yAV, le_of_eq → yGM
open _root_.Int renaming natAbs_mul → yAR, lt_or_le → yBK, mul_pos → yBN, mul_comm → yBV, mul_nonneg → yBY, natCast_mul → yCP, emod_nonneg → yDX, emod_lt_of_pos → yDY, ediv_nonneg → yEW, emod_add_mul_ediv → yEZ, dvd_refl → yFI, le_of_dvd → yFV, ediv_le_self → yGH
open _root_.Array renaming getElem?_eq_some_iff → yAB, getElem?_eq_none → yCW, getElem?_eq_getElem → yDN, toList_setIfInBounds → yEA
open _root_.Option renaming getD_some → yBA, map_some → yFD
section
open Go.RowKit
def zBY(w:World)(g:Nat)(V:Int):Prop:=w.heap[g]? =some (.cells #[.int .i64 (V/18446744073709551616),.int .u64 (V%18446744073709551616)] 100 (0,0))
theorem zBY.lt{w:World}{g:Nat}{V:Int}(h:zBY w g V):g<w.heap.size:=(yAB.1 h).1
theorem zBY.keep{w w':World}{g:Nat}{V:Int}(h:zBY w g V)(hk:w'.heap[g]? =w.heap[g]?):zBY w' g V:=hk.trans h
theorem zBY.cells{w:World}{g:Nat}{V a b:Int}(h:zBY w g V)(p:WP V a b):w.cell? ⟨g,0,none⟩=some (.int .i64 a)∧w.cell? ⟨g,1,none⟩=some (.int .u64 b)∧w.frozen? ⟨g,0,none⟩=false∧w.frozen? ⟨g,1,none⟩=false∧g<w.heap.size:=by
 have hl:=h.lt
 unfold zBY at h
 rw[p.1,p.2]
 exact⟨by simp[World.cell?,h],by simp[World.cell?,h],by simp[World.frozen?,h],by simp[World.frozen?,h],hl⟩
theorem zBY.set{w:World}{g:Nat}{V U a b:Int}(h:zBY w g V)(p:WP U a b):zBY ((w.setCell ⟨g,0,none⟩ (.int .i64 a)).setCell ⟨g,1,none⟩ (.int .u64 b)) g U:=by
 have h1:=zAT h 0 (v:=.int .i64 a)
 have h2:=zAT h1 1 (v:=.int .u64 b)
 unfold zBY
 rw[h2,p.1,p.2];rfl
theorem zBQ(w:World)(b:Nat)(x y:Value):Keep (fun g=>g≠b) w ((w.setCell ⟨b,0,none⟩ x).setCell ⟨b,1,none⟩ y):=(Keep.set w b 0 x).trans (Keep.set _ b 1 y)
theorem zBY.other{w:World}{g b:Nat}{V:Int}(h:zBY w g V)(hn:g≠b)(x y:Value):zBY ((w.setCell ⟨b,0,none⟩ x).setCell ⟨b,1,none⟩ y) g V:=h.keep ((zBQ w b x y).block g h.lt hn)
theorem zBY.made(w:World){V a b:Int}(p:WP V a b):zBY (w.alloc (.cells #[.int .i64 a,.int .u64 b] 100)) w.heap.size V:=by
 unfold zBY
 rw[World.alloc_heap_new,p.1,p.2]
theorem zKI(j:Nat):(0:Int)<2 ^ j:=Int.pow_pos (by decide)
def OverS(A B:Int)(j:Nat)(q r t:Int):Prop:=0<=q∧0<=r∧r<B∧0<=t∧t<=1∧(r+r+t<B->A/2 ^ j/B=q+q∧A/2 ^ j%B=r+r+t)∧(¬r+r+t<B->A/2 ^ j/B=q+q+1∧A/2 ^ j%B=r+r+t-B)
theorem over_step{A B:Int}(hB:0<B)(hA:0<=A)(j:Nat){q r t:Int}(hq:q=A/2 ^ (j+1)/B)(hr:r=A/2 ^ (j+1)%B)(ht:t=A/2 ^ j%2):
 OverS A B j q r t:=by
 have e:A/2 ^ (j+1)=A/2 ^ j/2:=by rw[Int.pow_succ,Int.ediv_ediv_of_nonneg (by have:=zKI j;omega)]
 obtain⟨T,hT⟩:=exq (A/2 ^ j)
 have hT0:0<=T:=by rw[hT];exact yEW hA (by have:=zKI j;omega)
 unfold OverS
 rw[e,<- hT]at hq hr
 rw[<- hT]at ht⊢
 have h1:=yEZ (T/2) B
 have h2:=yDX (T/2) (show B≠0 by omega)
 have h3:=yDY (T/2) hB
 have h4:0<=T/2/B:=yEW (by omega) (by omega)
 rw[<- hq,<- hr]at h1
 rw[<- hr]at h2 h3
 rw[<- hq]at h4
 have hTt:T=2*(r+B*q)+t:=by omega
 refine⟨h4,h2,h3,by omega,by omega,fun h=>?_,fun h=>?_⟩
 ·have hx:T=(r+r+t)+(q+q)*B:=by rw[hTt];grind
  rw[hx,Int.add_mul_ediv_right _ _ (by omega),Int.ediv_eq_zero_of_lt (by omega) h,Int.add_mul_emod_self_right,Int.emod_eq_of_lt (by omega) h]
  omega
 ·have hx:T=(r+r+t-B)+(q+q+1)*B:=by rw[hTt];grind
  rw[hx,Int.add_mul_ediv_right _ _ (by omega),Int.ediv_eq_zero_of_lt (by omega) (by omega),Int.add_mul_emod_self_right,Int.emod_eq_of_lt (by omega) (by omega)]
  omega
theorem bit_low{A:Int}(hA:0<=A){j:Nat}(hj:j<64):A%18446744073709551616/2 ^ j%2=A/2 ^ j%2:=by
 have hp:=zKI j
 have e1:(18446744073709551616:Int)=2 ^ j*(2*2 ^ (63-j)):=by
  have:(2:Int) ^ j*(2*2 ^ (63-j))=2 ^ (j+(1+(63-j))):=by rw[Int.pow_add,Int.pow_add];rfl
  rw[this,show j+(1+(63-j))=64 by omega];rfl
 have h1:=yEZ A 18446744073709551616
 generalize A%18446744073709551616=a at*
 generalize A/18446744073709551616=h at*
 rw[<- h1,e1]
 have e2:a+2 ^ j*(2*2 ^ (63-j))*h=a+2 ^ j*(2*(2 ^ (63-j)*h)):=by grind
 rw[e2,Int.add_mul_ediv_left _ _ (by omega)]
 omega
theorem bit_high{A:Int}(j:Nat)(hj:64<=j):A/18446744073709551616/2 ^ (j-64)=A/2 ^ j:=by
 rw[Int.ediv_ediv_of_nonneg (by decide)]
 congr 1
 have:(18446744073709551616:Int)*2 ^ (j-64)=2 ^ (64+(j-64)):=by rw[Int.pow_add];rfl
 rw[this,show 64+(j-64)=j by omega]
theorem zKF(w:World)(V:Int)(hV: -170141183460469231731687303715884105728<V∧V<170141183460469231731687303715884105728):
 Calls Tryz.prog 148 #[zCN V] w fun e w'=>e=.returned (.int .i64 (cmpI V 0))∧Below w.heap.size w w':=by
 have HC:=hid (fun X=>zEF X V 0)
 have hw0:zCN 0=.agg #[.int .i64 0,.int .u64 0]:=by simp[zCN]
 rw[hw0]at HC
 obtain⟨a,b,p⟩:=WP.ex V
 rw[p.val]at HC⊢
 obtain⟨C,hC⟩:=exq (cmpI V 0)
 rw[<- hC]at HC⊢
 clear p hC hV hw0
 go_enter Tryz.func148,Tryz.ntmps148
 go_wp2_with (go_at_call 207;refine(HC.out _).mono ?_;rintro e w1 ⟨rfl,hb1⟩)
 go_ret
 exact⟨rfl,zAA ((Below.refl _ _).alloc (yAC _) _) hb1⟩
theorem zQK(w:World)(A B:Int)(hA:0<=A∧A<170141183460469231731687303715884105728)(hB:0<B∧B<85070591730234615865843651857942052864):
 Calls Tryz.prog 150 #[zCN A,zCN B] w fun e w'=>e=.returned (.tuple #[zCN (A/B),zCN (A%B)])∧Below w.heap.size w w':=by
 obtain⟨ah,al,pA⟩:=WP.ex A
 obtain⟨bh,bl,pB⟩:=WP.ex B
 obtain⟨s,hs⟩:=exq (w.heap.size)
 obtain⟨wz,hwz⟩:=exq ((((w.alloc (.cells #[.int .i64 ah,.int .u64 al] 100)).alloc (.cells #[.int .i64 bh,.int .u64 bl] 100)).alloc (.cells #[.int .i64 0,.int .u64 0] 100)).alloc (.cells #[.int .i64 0,.int .u64 0] 100))
 have p0:WP 0 0 0:=⟨by decide,by decide⟩
 have hbz:Below w.heap.size w wz:=by rw[hwz];exact((((Below.refl _ _).alloc (yAC _) _).alloc (by simp) _).alloc (by simp;omega) _).alloc (by simp;omega) _
 have hsz:wz.heap.size=s+4:=by rw[hwz,hs];simp
 have qa:zBY wz s A:=by
  rw[hwz,hs]
  exact(((zBY.made w pA).keep (Below.heap_alloc _ _ _ (by simp))).keep (Below.heap_alloc _ _ _ (by simp;omega))).keep (Below.heap_alloc _ _ _ (by simp;omega))
 have qb:zBY wz (s+1) B:=by
  have h:=zBY.made (w.alloc (.cells #[.int .i64 ah,.int .u64 al] 100)) pB
  rw[World.size_alloc]at h
  rw[hwz,hs]
  exact(h.keep (Below.heap_alloc _ _ _ (by simp))).keep (Below.heap_alloc _ _ _ (by simp))
 have qq:zBY wz (s+2) 0:=by
  have h:=zBY.made ((w.alloc (.cells #[.int .i64 ah,.int .u64 al] 100)).alloc (.cells #[.int .i64 bh,.int .u64 bl] 100)) p0
  rw[World.size_alloc,World.size_alloc]at h
  rw[hwz,hs]
  exact h.keep (Below.heap_alloc _ _ _ (by simp))
 have qr:zBY wz (s+3) 0:=by
  have h:=zBY.made (((w.alloc (.cells #[.int .i64 ah,.int .u64 al] 100)).alloc (.cells #[.int .i64 bh,.int .u64 bl] 100)).alloc (.cells #[.int .i64 0,.int .u64 0] 100)) p0
  rw[World.size_alloc,World.size_alloc,World.size_alloc]at h
  rw[hwz,hs]
  exact h
 have HST:=hid (show ∀j:Nat,OverS A B j (A/2 ^ (j+1)/B) (A/2 ^ (j+1)%B) (A/2 ^ j%2)from fun j=>over_step hB.1 hA.1 j (q:=A/2 ^ (j+1)/B) (r:=A/2 ^ (j+1)%B) (t:=A/2 ^ j%2) rfl rfl rfl)
 have HTOP:=hid (show A/2 ^ 128/B=0∧A/2 ^ 128%B=0 from by
  have e:A/2 ^ 128=0:=Int.ediv_eq_zero_of_lt hA.1 (by have:=hA.2;omega)
  rw[e];simp)
 have hQB:=hid (fun(j:Nat)=>show A/2 ^ j/B<=A from by
  have h1:A/2 ^ j<=A:=yGH _ hA.1
  have h2:A/2 ^ j/B<=A/2 ^ j:=yGH _ (yEW hA.1 (by have:=zKI j;omega))
  omega)
 rw[pA.val,pB.val]
 have HBZ:=hid hbz
 have HSZ:=hid hsz
 have QA:=hid qa
 have QB:=hid qb
 have PA:=hid pA
 have PB:=hid pB
 clear hbz hsz qa qb
 go_enter Tryz.func150,Tryz.ntmps150
 go_wp2_with fail
 rw[<- hs,<- hwz]
 have HSV:=hid hs
 have HP0:=hid p0
 have HAA:=hid hA
 have HBB:=hid hB
 clear hwz hs p0 hA hB pA pB
 go_loopw [6] (fun i wr=>∃k:Nat,k<=128∧i=.int .i64 ((k:Int)-1)∧Keep (fun g=>g≠s+2∧g≠s+3) wz wr∧zBY wr (s+2) (A/2 ^ k/B)∧zBY wr (s+3) (A/2 ^ k%B)) (fun i _=>(intOf i+1).toNat)
 case atStart=>exact⟨128,by omega,rfl,Keep.refl _ _,by rw[HTOP.out.1];exact qq,by rw[HTOP.out.2];exact qr⟩
 case round=>
  obtain⟨k,hk,rfl,hkp,hq,hr⟩:=hrel
  have hsz:=HSZ.out
  cases k with
  |succ j=>
   have hj0:(((j+1:Nat):Int)-1)=(j:Int):=by omega
   rw[hj0]
   obtain⟨q,hqe⟩:=exq (A/2 ^ (j+1)/B)
   obtain⟨r,hre⟩:=exq (A/2 ^ (j+1)%B)
   obtain⟨t,hte⟩:=exq (A/2 ^ j%2)
   have hst:=HST.out j
   unfold OverS at hst
   rw[<- hqe,<- hre,<- hte]at hst
   rw[<- hqe]at hq
   rw[<- hre]at hr
   have hA':=hkp.block s (by omega) (by show s≠s+2∧s≠s+3;omega)
   have qa:=QA.out.keep hA'
   obtain⟨c0,c1,_,_,_⟩:=qa.cells PA.out
   have ht2:0<=t∧t<=1:=by omega
   have hqn:=hst.2.2.2.2.2
   have hst2:0<=r∧r<B:=⟨hst.2.1,hst.2.2.1⟩
   have QBW:=hid (QB.out.keep (hkp.block (s+1) (by omega) (by show s+1≠s+2∧s+1≠s+3;omega)))
   have hqe':=hqe
   have hqq2':q+q<=A:=by
    rcases yBK (r+r+t) B with c|c
    ·have:=(hst.2.2.2.2.2.1 c).1;have:=hQB.out j;omega
    ·have:=(hst.2.2.2.2.2.2 (by omega)).1;have:=hQB.out j;omega
   have HSTP:=hid hst
   have HQ:=hid hq
   have HR:=hid hr
   have HKP:=hid hkp
   have hj127:j<=127:=by omega
   clear hst hq hr hkp qa hA' hj0 hqe hre hk
   obtain⟨r1,r2,pr⟩:=WP.ex r
   obtain⟨k1,k2,pk⟩:=WP.ex q
   obtain⟨x1,x2,px⟩:=WP.ex (r+r)
   obtain⟨y1,y2,py⟩:=WP.ex (r+r+t)
   obtain⟨z1,z2,pz⟩:=WP.ex (q+q)
   have hr0:=HR.out
   obtain⟨d0,d1,d2,d3,d4⟩:=hr0.cells pr
   have hq0:=HQ.out
   obtain⟨e0,e1,e2,e3,e4⟩:=hq0.cells pk
   have hAA:=HAA.out
   have hBB:=HBB.out
   have hst:=HSTP.out
   have hpt:zCN t=.agg #[.int .i64 0,.int .u64 t]:=by
    unfold zCN
    rw[show t/18446744073709551616=0 by omega,show t%18446744073709551616=t by omega]
   have hP1:=hid (show ∀X:World,Calls Tryz.prog 161 #[.agg #[.int .i64 r1,.int .u64 r2],.agg #[.int .i64 r1,.int .u64 r2]] X fun e w'=>e=.returned (.agg #[.int .i64 x1,.int .u64 x2])∧Below X.heap.size X w' from fun X=>by
    have:=zKG X r r (by omega) (by omega) (by omega)
    rw[pr.val,px.val]at this;exact this)
   have hP2:=hid (show ∀X:World,Calls Tryz.prog 161 #[.agg #[.int .i64 x1,.int .u64 x2],.agg #[.int .i64 0,.int .u64 t]] X fun e w'=>e=.returned (.agg #[.int .i64 y1,.int .u64 y2])∧Below X.heap.size X w' from fun X=>by
    have:=zKG X (r+r) t (by omega) (by omega) (by omega)
    rw[px.val,hpt,py.val]at this;exact this)
   have hqq:q<=A∧0<=q:=⟨by rw[hqe'];exact hQB.out _,hst.1⟩
   have hqq2:q+q<=A:=hqq2'
   have HQ0:=hid (And.intro hst.1 hqq2')
   have hP3:=hid (show ∀X:World,Calls Tryz.prog 161 #[.agg #[.int .i64 k1,.int .u64 k2],.agg #[.int .i64 k1,.int .u64 k2]] X fun e w'=>e=.returned (.agg #[.int .i64 z1,.int .u64 z2])∧Below X.heap.size X w' from fun X=>by
    have:=zKG X q q (by omega) (by omega) (by omega)
    rw[pk.val,pz.val]at this;exact this)
   have hbit:(j<64->bits BinOp.and IntKind.u64 (al/2 ^ j) 1=t)∧(64<=j->bits BinOp.and IntKind.u64 (ah/2 ^ (j-64)) 1=t)∧IntKind.u64.wrap ah=ah:=by
    have e1:=PA.out.1
    have e2:=PA.out.2
    refine⟨fun h=>?_,fun h=>?_,?_⟩
    ·have h1:0<=al/2 ^ j:=yEW (by omega) (by have:=zKI j;omega)
     have h2:al/2 ^ j<=al:=yGH _ (by omega)
     rw[and_one_u64 _ h1 (by omega),e2,hte]
     exact bit_low hAA.1 h
    ·have h1:0<=ah/2 ^ (j-64):=yEW (by omega) (by have:=zKI (j-64);omega)
     have h2:ah/2 ^ (j-64)<=ah:=yGH _ (by omega)
     rw[and_one_u64 _ h1 (by omega),e1,hte,bit_high j h]
    ·rw[IntKind.wrap_u64];omega
   obtain⟨hb1,hb2,hb3⟩:=hbit
   have HCM:=hid (show ∀X:World,Calls Tryz.prog 207 #[.agg #[.int .i64 y1,.int .u64 y2],.agg #[.int .i64 bh,.int .u64 bl]] X fun e w'=>e=.returned (.int .i64 (cmpI (r+r+t) B))∧Below X.heap.size X w' from fun X=>by
    have:=zEF X (r+r+t) B
    rw[py.val,PB.out.val]at this;exact this)
   have PR:=hid pr
   have PK:=hid pk
   have PZ:=hid pz
   clear hst hAA hBB hpt hqq hqq2 hqe' hqq2' hte pr pk px pz hr0 hq0
   have PY:=hid py
   clear py
   have HQN:=hid hqn
   have HST2:=hid hst2
   have HK:=hid (fun(X:World) (hX:Below wr.heap.size wr X)=>And.intro (HR.out.keep (hX.block _ HR.out.lt)) (And.intro (HQ.out.keep (hX.block _ HQ.out.lt)) (QBW.out.keep (hX.block _ QBW.out.lt))))
   have HSL:=hid (And.intro HR.out.lt (And.intro HQ.out.lt QBW.out.lt))
   clear hqn hst2
   have h64:(j<64∧bits BinOp.and IntKind.u64 (al/2 ^ j) 1=t)∨(¬j<64∧bits BinOp.and IntKind.u64 (ah/2 ^ (j-64)) 1=t):=by
    by_cases h:j<64
    ·exact .inl ⟨h,hb1 h⟩
    ·exact .inr ⟨h,hb2 (by omega)⟩
   clear hb1 hb2
   rcases h64 with⟨h64,hb1⟩|⟨h64,hb1⟩
   all_goals
    go_upto_region 7 with fail
    clear hb1 hb3
    go_wp2_with (go_at_call 161;refine(hP1.out _).mono ?_;rintro e w1 ⟨rfl,hb1⟩;refine Stop.of ?_)
    refine Stop.go ?_
    have HB1:=hid hb1
    clear hb1
    go_wp2_with (go_at_call 161;refine(hP2.out _).mono ?_;rintro e w2 ⟨rfl,hb2⟩;refine Stop.of ?_)
    refine Stop.go ?_
    have HB2:=hid (zAA HB1.out hb2)
    clear hb2 d0 d1 d2 d3 d4 e0 e1 e2 e3 e4
    obtain⟨m1,m2,m3⟩:=HK.out _ HB2.out
    obtain⟨a0,a1,a2,a3,a4⟩:=m1.cells PR.out
    have M1:=hid (zBY.set m1 PY.out)
    have M2:=hid (m2.other (b:=s+3) (by omega) (.int .i64 y1) (.int .u64 y2))
    have M3:=hid (m3.other (b:=s+3) (by omega) (.int .i64 y1) (.int .u64 y2))
    have KP:=hid (show Keep (fun g=>g≠s+2∧g≠s+3) wr ((w2.setCell ⟨s+3,0,none⟩ (.int .i64 y1)).setCell ⟨s+3,1,none⟩ (.int .u64 y2))from(Keep.of_below HB2.out:Keep (fun g=>g≠s+2∧g≠s+3) _ _).trans ((zBQ w2 (s+3) _ _).mono fun g h=>h.2))
    obtain⟨v0,v1,v2,v3,v4⟩:=M1.out.cells PY.out
    obtain⟨g0,g1,g2,g3,g4⟩:=M2.out.cells PK.out
    clear m1 m2 m3
    go_wp2_with (go_at_call 161;refine(hP3.out _).mono ?_;rintro e w3 ⟨rfl,hb3⟩;refine Stop.of ?_)
    refine Stop.go ?_
    have HB3:=hid hb3
    have L1:=hid (M1.out.keep (hb3.block _ M1.out.lt))
    have L2:=hid (M2.out.keep (hb3.block _ M2.out.lt))
    have L3:=hid (M3.out.keep (hb3.block _ M3.out.lt))
    clear hb3 v0 v1 v2 v3 v4 g0 g1 g2 g3 g4 a0 a1 a2 a3 a4
    obtain⟨g0,g1,g2,g3,g4⟩:=L2.out.cells PK.out
    have N2:=hid (zBY.set L2.out PZ.out)
    have N1:=hid (L1.out.other (b:=s+2) (by omega) (.int .i64 z1) (.int .u64 z2))
    have N3:=hid (L3.out.other (b:=s+2) (by omega) (.int .i64 z1) (.int .u64 z2))
    have KN:=hid (KP.out.trans ((Keep.of_below HB3.out:Keep (fun g=>g≠s+2∧g≠s+3) _ _).trans ((zBQ w3 (s+2) (.int .i64 z1) (.int .u64 z2)).mono fun g h=>h.1)))
    obtain⟨v0,v1,v2,v3,v4⟩:=N1.out.cells PY.out
    obtain⟨i0,i1,i2,i3,i4⟩:=N3.out.cells PB.out
    go_wp2_with (go_at_call 207;refine(HCM.out _).mono ?_;rintro e w4 ⟨rfl,hb4⟩;refine Stop.of ?_)
    refine Stop.go ?_
    have HB4:=hid hb4
    have O1:=hid (N1.out.keep (hb4.block _ N1.out.lt))
    have O2:=hid (N2.out.keep (hb4.block _ N2.out.lt))
    have O3:=hid (N3.out.keep (hb4.block _ N3.out.lt))
    have KO:=hid (KN.out.trans (Keep.of_below hb4:Keep (fun g=>g≠s+2∧g≠s+3) _ _))
    clear hb4 v0 v1 v2 v3 v4 g0 g1 g2 g3 g4 i0 i1 i2 i3 i4
    by_cases hcb:r+r+t<B
    ·have hc1:¬0<=cmpI (r+r+t) B:=by unfold cmpI;rw[if_pos hcb];decide
     go_wp2
     obtain⟨n1,n2⟩:=HQN.out.1 hcb
     exact⟨⟨j,by omega,rfl,HKP.out.trans KO.out,by rw[n1];exact O2.out,by rw[n2];exact O1.out⟩,by simp[intOf]⟩
    ·have hc1:0<=cmpI (r+r+t) B:=by unfold cmpI;rw[if_neg hcb];split<;>decide
     obtain⟨o1,o2,po⟩:=WP.ex (-B)
     obtain⟨f1,f2,pf⟩:=WP.ex (r+r+t-B)
     obtain⟨h1,h2,ph⟩:=WP.ex (q+q+1)
     have hBB:=HBB.out
     have hAA:=HAA.out
     have hst2:=HST2.out
     have hq0:=HQ0.out
     have hw1:zCN 1=.agg #[.int .i64 0,.int .u64 1]:=by simp[zCN]
     have HC1:=hid (show ∀X:World,Calls Tryz.prog 149 #[.agg #[.int .i64 bh,.int .u64 bl]] X fun e w'=>e=.returned (.agg #[.int .i64 o1,.int .u64 o2])∧Below X.heap.size X w' from fun X=>by
      have:=zML X B (by omega)
      rw[PB.out.val,po.val]at this;exact this)
     have HC2:=hid (show ∀X:World,Calls Tryz.prog 161 #[.agg #[.int .i64 y1,.int .u64 y2],.agg #[.int .i64 o1,.int .u64 o2]] X fun e w'=>e=.returned (.agg #[.int .i64 f1,.int .u64 f2])∧Below X.heap.size X w' from fun X=>by
      have:=zKG X (r+r+t) (-B) (by omega) (by omega) (by omega)
      rw[show r+r+t+ -B=r+r+t-B by omega]at this
      rw[PY.out.val,po.val,pf.val]at this;exact this)
     have HC3:=hid (show ∀X:World,Calls Tryz.prog 161 #[.agg #[.int .i64 z1,.int .u64 z2],.agg #[.int .i64 0,.int .u64 1]] X fun e w'=>e=.returned (.agg #[.int .i64 h1,.int .u64 h2])∧Below X.heap.size X w' from fun X=>by
      have:=zKG X (q+q) 1 (by omega) (by omega) (by omega)
      rw[PZ.out.val,hw1,ph.val]at this;exact this)
     have PF:=hid pf
     have PH:=hid ph
     clear po pf ph hBB hAA hst2 hq0 hw1 ht2
     go_wp2
     refine zAG (fun j X=>decide (j<8∧j≠5)=true->X.cell? ⟨s+2,0,none⟩=some (.int .i64 z1)∧X.cell? ⟨s+2,1,none⟩=some (.int .u64 z2)) (by kernel_rfl) ?_
     have HS:=hid (show ∀X:World,Below w4.heap.size w4 X->X.cell? ⟨s+3,0,none⟩=some (.int .i64 y1)∧X.cell? ⟨s+3,1,none⟩=some (.int .u64 y2)∧X.cell? ⟨s+1,0,none⟩=some (.int .i64 bh)∧X.cell? ⟨s+1,1,none⟩=some (.int .u64 bl)∧X.cell? ⟨s+2,0,none⟩=some (.int .i64 z1)∧X.cell? ⟨s+2,1,none⟩=some (.int .u64 z2)from fun X hX=>by
      obtain⟨a0,a1,_⟩:=(O1.out.keep (hX.block _ O1.out.lt)).cells PY.out
      obtain⟨b0,b1,_⟩:=(O3.out.keep (hX.block _ O3.out.lt)).cells PB.out
      obtain⟨c0,c1,_⟩:=(O2.out.keep (hX.block _ O2.out.lt)).cells PZ.out
      exact⟨a0,a1,b0,b1,c0,c1⟩)
     have hbd:Below w4.heap.size w4 w4.drew:=(Below.refl _ _).drew
     generalize w4.drew=wd at hbd⊢
     have hS:=HS.out _ hbd
     refine AnyT.takeG (i:=5) (v:=.agg #[.int .i64 0,.int .u64 1]) (S:=fun X=>True) (Wf:=fun j=>true) (fun j w' h hj=>trivial) (fun w' h h5=>absurd h5 (by decide)) rfl rfl (by kernel_rfl) (by kernel_rfl) (by kernel_rfl) (by first|exact(fun _ _ _ h=>h)|exact(fun _ _ _ h=>absurd h.1 (by simp))) (by kernel_rfl) (by rfl) (by rintro w' _;go_simp) trivial ?_;go_frame
     refine AnyT.weak (T:=fun j X=>decide (j<8∧j≠5)=true->X.cell? ⟨s+2,0,none⟩=some (.int .i64 z1)∧X.cell? ⟨s+2,1,none⟩=some (.int .u64 z2)) (T':=fun j X=>decide (j<8)=true->X.cell? ⟨s+2,0,none⟩=some (.int .i64 z1)∧X.cell? ⟨s+2,1,none⟩=some (.int .u64 z2)) (fun j X h (hj:decide (j<8∧j≠5)=true)=>h (decide_eq_true (of_decide_eq_true hj).1)) _ _ _ _ ?_
     refine AnyT.tD (i:=4) (v:=.agg #[.int .i64 z1,.int .u64 z2]) rfl rfl (by rintro w' ⟨q5,q6⟩;go_simp) hS.2.2.2.2 ?_;go_frame
     refine AnyT.weak (T':=fun j X=>(decide (j<7)=true->X.cell? ⟨s+3,0,none⟩=some (.int .i64 y1)∧X.cell? ⟨s+3,1,none⟩=some (.int .u64 y2)∧X.cell? ⟨s+1,0,none⟩=some (.int .i64 bh)∧X.cell? ⟨s+1,1,none⟩=some (.int .u64 bl)∧X.cell? ⟨s+2,0,none⟩=some (.int .i64 z1)∧X.cell? ⟨s+2,1,none⟩=some (.int .u64 z2))∧(decide (j<8)=true->X.cell? ⟨s+2,0,none⟩=some (.int .i64 z1)∧X.cell? ⟨s+2,1,none⟩=some (.int .u64 z2))) (fun j X h=>h.2) _ _ _ _ ?_
     refine AnyT.takeG (i:=0) (v:=.agg #[.int .i64 y1,.int .u64 y2]) (S:=fun X=>X.cell? ⟨s+3,0,none⟩=some (.int .i64 y1)∧X.cell? ⟨s+3,1,none⟩=some (.int .u64 y2)∧X.cell? ⟨s+1,0,none⟩=some (.int .i64 bh)∧X.cell? ⟨s+1,1,none⟩=some (.int .u64 bl)∧X.cell? ⟨s+2,0,none⟩=some (.int .i64 z1)∧X.cell? ⟨s+2,1,none⟩=some (.int .u64 z2)) (Wf:=fun j=>decide (j<7)) (fun j w' h hj=>h.1 hj) (fun w' h=>⟨fun _=>h,fun _=>h.2.2.2.2⟩) rfl rfl (by kernel_rfl) (by kernel_rfl) (by kernel_rfl) (by first|exact(fun _ _ _ h=>h)|exact(fun _ _ _ h=>absurd h.1 (by simp))) (by kernel_rfl) (by rfl) (by rintro w' ⟨q1,q2,q3,q4,q5,q6⟩;go_simp) hS ?_;go_frame
     refine AnyT.takeG (i:=1) (v:=.agg #[.int .i64 bh,.int .u64 bl]) (S:=fun X=>X.cell? ⟨s+3,0,none⟩=some (.int .i64 y1)∧X.cell? ⟨s+3,1,none⟩=some (.int .u64 y2)∧X.cell? ⟨s+1,0,none⟩=some (.int .i64 bh)∧X.cell? ⟨s+1,1,none⟩=some (.int .u64 bl)∧X.cell? ⟨s+2,0,none⟩=some (.int .i64 z1)∧X.cell? ⟨s+2,1,none⟩=some (.int .u64 z2)) (Wf:=fun j=>decide (j<7)) (fun j w' h hj=>h.1 hj) (fun w' h=>⟨fun _=>h,fun _=>h.2.2.2.2⟩) rfl rfl (by kernel_rfl) (by kernel_rfl) (by kernel_rfl) (by first|exact(fun _ _ _ h=>h)|exact(fun _ _ _ h=>absurd h.1 (by simp))) (by kernel_rfl) (by rfl) (by rintro w' ⟨q1,q2,q3,q4,q5,q6⟩;go_simp) hS ?_;go_frame
     refine AnyT.nx (i:=2) rfl ?_
     go_wp2_with (go_at_call 149;refine(HC1.out _).mono ?_;rintro e w5 ⟨rfl,hb5⟩;refine Stop.of ?_)
     refine Stop.go ?_
     have HB5:=hid (zAA hbd hb5)
     clear hb5 hS
     go_wp2
     refine⟨⟨fun _=>HS.out _ HB5.out,fun _=>(HS.out _ HB5.out).2.2.2.2⟩,?_⟩
     refine AnyT.nx (i:=3) rfl ?_
     go_wp2_with (go_at_call 161;refine(HC2.out _).mono ?_;rintro e w6 ⟨rfl,hb6⟩;refine Stop.of ?_)
     refine Stop.go ?_
     have HB6:=hid (zAA HB5.out hb6)
     clear hb6
     go_wp2
     refine⟨⟨fun _=>HS.out _ HB6.out,fun _=>(HS.out _ HB6.out).2.2.2.2⟩,?_⟩
     refine AnyT.nx (i:=6) rfl ?_
     go_wp2_with (go_at_call 161;refine(HC3.out _).mono ?_;rintro e w7 ⟨rfl,hb7⟩;refine Stop.of ?_)
     refine Stop.go ?_
     have HB7:=hid (zAA HB6.out hb7)
     clear hb7
     have R1:=hid (O1.out.keep (HB7.out.block _ O1.out.lt))
     have R2:=hid (O2.out.keep (HB7.out.block _ O2.out.lt))
     go_wp2
     refine⟨⟨fun _=>HS.out _ HB7.out,fun _=>(HS.out _ HB7.out).2.2.2.2⟩,?_⟩
     obtain⟨v0,v1,v2,v3,v4⟩:=R1.out.cells PY.out
     have V1:=hid (zBY.set R1.out PF.out)
     have V2:=hid (R2.out.other (b:=s+3) (by omega) (.int .i64 f1) (.int .u64 f2))
     refine AnyT.nx (i:=7) rfl ?_
     go_wp2
     clear v0 v1 v2 v3 v4
     obtain⟨g0,g1,g2,g3,g4⟩:=V2.out.cells PZ.out
     refine⟨⟨fun h=>absurd h (by decide),fun _=>⟨g0,g1⟩⟩,?_⟩
     have X2:=hid (zBY.set V2.out PH.out)
     have X1:=hid (V1.out.other (b:=s+2) (by omega) (.int .i64 h1) (.int .u64 h2))
     have KX:=hid (KO.out.trans ((Keep.of_below HB7.out:Keep (fun g=>g≠s+2∧g≠s+3) _ _).trans (((zBQ w7 (s+3) (.int .i64 f1) (.int .u64 f2)).mono fun g h=>h.2).trans ((zBQ _ (s+2) (.int .i64 h1) (.int .u64 h2)).mono fun g h=>h.1))))
     refine AnyT.nx (i:=8) rfl ?_
     go_wp2
     refine⟨⟨fun h=>absurd h (by decide),fun h=>absurd h (by decide)⟩,?_⟩
     refine AnyT.done (by kernel_rfl) ?_ _
     go_wp2
     obtain⟨n1,n2⟩:=HQN.out.2 (by omega)
     exact⟨⟨j,by omega,rfl,HKP.out.trans KX.out,by rw[n1];exact X2.out,by rw[n2];exact X1.out⟩,by simp[intOf]⟩
  |zero=>
   rw[Int.pow_zero,Int.ediv_one]at hq hr
   have HQ:=hid hq
   have HR:=hid hr
   have HKP:=hid hkp
   obtain⟨q1,q2,pq⟩:=WP.ex (A/B)
   obtain⟨r1,r2,pr⟩:=WP.ex (A%B)
   have PQ:=hid pq
   have PR:=hid pr
   have hm1:((0:Nat):Int)-1= -1:=by decide
   rw[hm1]
   have HVQ:=hid pq.val
   have HVR:=hid pr.val
   clear hq hr hkp pq pr hm1
   go_wp2
   refine zAG (fun j X=>wAll j=true->X.cell? ⟨s+2,0,none⟩=some (.int .i64 q1)∧X.cell? ⟨s+2,1,none⟩=some (.int .u64 q2)∧X.cell? ⟨s+3,0,none⟩=some (.int .i64 r1)∧X.cell? ⟨s+3,1,none⟩=some (.int .u64 r2)) (by kernel_rfl) ?_
   have hbd:Below wr.heap.size wr wr.drew:=(Below.refl _ _).drew
   have G2:=hid (HQ.out.keep (hbd.block _ HQ.out.lt))
   have G3:=hid (HR.out.keep (hbd.block _ HR.out.lt))
   have KD:=hid (HKP.out.trans (Keep.of_below hbd:Keep (fun g=>g≠s+2∧g≠s+3) _ _))
   generalize wr.drew=wd at G2 G3 KD⊢
   obtain⟨a0,a1,a2,a3,a4⟩:=G2.out.cells PQ.out
   obtain⟨b0,b1,b2,b3,b4⟩:=G3.out.cells PR.out
   have hS:wd.cell? ⟨s+2,0,none⟩=some (.int .i64 q1)∧wd.cell? ⟨s+2,1,none⟩=some (.int .u64 q2)∧wd.cell? ⟨s+3,0,none⟩=some (.int .i64 r1)∧wd.cell? ⟨s+3,1,none⟩=some (.int .u64 r2):=⟨a0,a1,b0,b1⟩
   refine AnyT.tD (i:=0) (v:=.agg #[.int .i64 q1,.int .u64 q2]) rfl rfl (by rintro w' ⟨x1,x2,x3,x4⟩;go_simp) hS ?_;go_frame
   refine AnyT.tD (i:=1) (v:=.agg #[.int .i64 r1,.int .u64 r2]) rfl rfl (by rintro w' ⟨x1,x2,x3,x4⟩;go_simp) hS ?_;go_frame
   have M2:=hid (zBY.set G2.out PQ.out)
   have M3:=hid (G3.out.other (b:=s+2) (by omega) (.int .i64 q1) (.int .u64 q2))
   refine AnyT.nx (i:=2) rfl ?_
   go_wp2
   clear a0 a1 a2 a3 a4 b0 b1 b2 b3 b4 hS
   obtain⟨a0,a1,a2,a3,a4⟩:=M2.out.cells PQ.out
   obtain⟨b0,b1,b2,b3,b4⟩:=M3.out.cells PR.out
   refine⟨fun _=>⟨a0,a1,b0,b1⟩,?_⟩
   have N3:=hid (zBY.set M3.out PR.out)
   have N2:=hid (M2.out.other (b:=s+3) (by omega) (.int .i64 r1) (.int .u64 r2))
   have KN:=hid (KD.out.trans (((zBQ wd (s+2) (.int .i64 q1) (.int .u64 q2)).mono fun g h=>h.1).trans ((zBQ _ (s+3) (.int .i64 r1) (.int .u64 r2)).mono fun g h=>h.2)))
   refine AnyT.nx (i:=3) rfl ?_
   go_wp2
   clear a0 a1 a2 a3 a4 b0 b1 b2 b3 b4
   obtain⟨a0,a1,a2,a3,a4⟩:=N2.out.cells PQ.out
   obtain⟨b0,b1,b2,b3,b4⟩:=N3.out.cells PR.out
   refine⟨fun _=>⟨a0,a1,b0,b1⟩,?_⟩
   refine AnyT.done (by kernel_rfl) ?_ _
   have HFB:=hid (KN.out.below HBZ.out (by have:=HSV.out;omega) (fun k hk=>by have:=HSV.out;omega))
   go_wp2
   change bodyPost _ _ _ _ _ ((((wd.setCell ⟨s+2,0,none⟩ (.int .i64 q1)).setCell ⟨s+2,1,none⟩ (.int .u64 q2)).setCell ⟨s+3,0,none⟩ (.int .i64 r1)).setCell ⟨s+3,1,none⟩ (.int .u64 r2))
   generalize (((wd.setCell ⟨s+2,0,none⟩ (.int .i64 q1)).setCell ⟨s+2,1,none⟩ (.int .u64 q2)).setCell ⟨s+3,0,none⟩ (.int .i64 r1)).setCell ⟨s+3,1,none⟩ (.int .u64 r2)=WF at*
   refine bodyPost_ret (v:=.tuple #[.agg #[.int .i64 q1,.int .u64 q2],.agg #[.int .i64 r1,.int .u64 r2]]) ?_ rfl ⟨by rw[HVQ.out,HVR.out],HFB.out⟩
   simp[results,Tryz.results150,go_sem,a0,a1,a2,a3,a4,b0,b1,b2,b3,b4]
end
section
open Go.RowKit
def ValB(x:List Rt):Prop:=∀k,1<=(zAB x k).2∧(zAB x k).2<=400∧ -10000000000<=(zAB x k).1∧(zAB x k).1<=10000000000
theorem zQN{x:List Rt}(h:x.all zAL=true):ValB x:=fun k=>by
 unfold zAB
 cases e:x[k]? with
 |none=>decide
 |some r=>
  have:=yAT.1 h r (yBM e)
  rw[zAR]at this
  exact⟨this.1,this.2.1,this.2.2.1,this.2.2.2.1⟩
def sgL(x:List Rt):List Int:=x.map fun r=>if r.1<0 then-1 else 1
theorem sgL_one(x:List Rt):∀k,-1<=vec (sgL x) k∧vec (sgL x) k<=1:=fun k=>by
 unfold vec sgL
 rw[yAZ]
 cases x[k]? with
 |none=>decide
 |some r=>simp only[yFD,yBA];split<;>decide
theorem nrm_sum(x:List Rt):∀k,k<=x.length->zCU x k=sumR (sgL x) x k
 |0,_=>rfl
 |k+1,h=>by
  have ih:=nrm_sum x k (by omega)
  have e:vec (sgL x) k=if (zAB x k).1<0 then-1 else 1:=by
   unfold vec sgL zAB
   rw[yAZ,yAA (by omega)];rfl
  have h0:vec (sgL x) k≠0:=by rw[e];split<;>decide
  have e2:(zAB x k).1*vec (sgL x) k=((zAB x k).1.natAbs:Int):=by rw[e];split<;>omega
  show((zCU x k).1*(zAB x k).2+(zCU x k).2*((zAB x k).1.natAbs:Int),(zCU x k).2*(zAB x k).2)=(if vec (sgL x) k≠0 then((sumR (sgL x) x k).1*(zAB x k).2+(sumR (sgL x) x k).2*((zAB x k).1*vec (sgL x) k),(sumR (sgL x) x k).2*(zAB x k).2)else sumR (sgL x) x k)
  rw[if_pos h0,ih,e2]
theorem nrm_bnd{x:List Rt}(hx:ValB x){k:Nat}(hk:k<=x.length)(h10:k<=10):(zCU x k).1.natAbs<=10485760000000000000000000000000000000∧1<=(zCU x k).2∧(zCU x k).2.natAbs<=104857600000000000000000000:=by
 rw[nrm_sum x k hk];exact zPD (sgL_one x) hx h10
def SumZ(w:World)(g:Nat):Prop:=w.heap[g]? =some (.cells #[.int .i64 0,.int .u64 0,.int .i64 0,.int .u64 0] 102 (0,0))
theorem SumZ.sumB{w:World}{g:Nat}(h:SumZ w g):SumB w g 0 0:=h
theorem dnorm_c(w:World)(a:Option Addr)(n cap:Nat)(x:List Rt)(hn:x.length=n)(hm:n<=10)(H:zCB w a x)(hx:ValB x):
 Calls Tryz.prog 82 #[.slice a n cap] w fun e w'=>e=.returned (sumV (nrmQ x).1 (nrmQ x).2)∧Below w.heap.size w w':=by
 have HQ:=hid (show nrmQ x=zCU x n by unfold nrmQ;rw[hn])
 have HXI:=hid (fun(X:World) (hX:Below w.heap.size w X)=>H.below hX)
 have HBD:=hid (fun j (hj:j<=n)=>nrm_bnd hx (by omega) (show j<=10 by omega))
 have HBD9:=hid (fun j (hj:j<n)=>(nrm_sum x j (by omega))▸sumR_bnd9 (sgL_one x) hx (show j<=9 by omega))
 have HXV:=hid hx
 have HN:=hid hn
 clear hn H hx
 go_enter Tryz.func82,Tryz.ntmps82
 go_wp2_with (go_at_call 95;refine(zQJ _).mono ?_;rintro e w3 ⟨rfl,hb3⟩;refine Stop.of ?_)
 refine Stop.go ?_
 have hz:sumV 0 1=.agg #[.int .i64 0,.int .u64 0,.int .i64 0,.int .u64 1]:=by simp[sumV]
 rw[hz]
 clear hz
 obtain⟨r0,hr0⟩:=exq (w.heap.size)
 obtain⟨w0,hw0⟩:=exq (w.alloc (.cells #[.int .i64 0,.int .u64 0,.int .i64 0,.int .u64 0] 102))
 rw[<- hw0]at hb3
 have hZ0:SumZ w0 r0:=by rw[hw0,hr0];exact World.alloc_heap_new _ _
 have hb0:Below w.heap.size w w0:=by rw[hw0];exact(Below.refl _ _).alloc (yAC _) _
 have hZ3:SumZ w3 r0:=(hb3.block _ hZ0.sumB.lt).trans hZ0
 have hbw3:=zAA hb0 hb3
 rw[<- hr0]
 go_wp2_with fail
 obtain⟨wb,hwb⟩:=exq (w3.alloc (.cells #[.int .i64 0,.int .u64 0,.int .i64 0,.int .u64 1] 102))
 obtain⟨g,hg⟩:=exq (w3.heap.size)
 have hsb:SumB wb g 0 1:=by rw[hwb,hg];exact SumB.made w3 ⟨by decide,by decide⟩ ⟨by decide,by decide⟩
 have hZb:SumZ wb r0:=by rw[hwb];exact(Below.heap_alloc _ _ _ hZ3.sumB.lt).trans hZ3
 have hbb:Below w.heap.size w wb:=by rw[hwb];exact hbw3.alloc hbw3.size _
 have hrg:r0<g:=by rw[hg];exact hZ3.sumB.lt
 rw[<- hwb,<- hg]
 have HSB:=hid hsb
 have HZB:=hid hZb
 have HBB:=hid hbb
 have HRG:=hid (show r0<g∧w.heap.size<=r0 from⟨hrg,by rw[hr0];exact yAC _⟩)
 clear hwb hg hsb hZb hbb hrg hZ3 hbw3 hb0 hZ0 hw0 hr0 hb3
 go_loopw [9] (fun i wr=>∃t:Nat,t<=n∧i=.int .i64 t∧SumB wr g (zCU x t).1 (zCU x t).2∧SumZ wr r0∧Below w.heap.size w wr) (fun i _=>n-(intOf i).toNat)
 case atStart=>exact⟨0,yAK _,rfl,HSB.out,HZB.out,HBB.out⟩
 case round=>
  obtain⟨t,ht,rfl,hsb,hzb,hbt⟩:=hrel
  by_cases htl:t<n
  ·obtain⟨bx,ox,rfl,hbx,hx0,hx1⟩:=(HXI.out wr hbt) t (by rw[HN.out];exact htl)
   have hxt:zAB x t=x[t]'(by rw[HN.out];exact htl):=by unfold zAB;rw[yAA (by rw[HN.out];exact htl)];rfl
   rw[<- hxt]at hx0 hx1
   have hsr:zCU x (t+1)=((zCU x t).1*(zAB x t).2+(zCU x t).2*((zAB x t).1.natAbs:Int),(zCU x t).2*(zAB x t).2):=rfl
   obtain⟨k1,k2,k3⟩:=HBD.out t (by omega)
   obtain⟨m1,m2,m3⟩:=HBD.out (t+1) (by omega)
   obtain⟨z1,z2⟩:=HBD9.out t htl
   obtain⟨x1,x2,x3,x4⟩:=HXV.out t
   rw[hsr]at m1 m2 m3
   have HSR:=hid hsr
   obtain⟨⟨N,D⟩,hND⟩:∃q,q=zAB x t:=⟨_,rfl⟩
   rw[<- hND]at hx0 hx1 m1 m2 m3 x1 x2 x3 x4 HSR
   obtain⟨⟨sn,sd⟩,hS⟩:∃q,q=zCU x t:=⟨_,rfl⟩
   rw[<- hS]at hsb k1 k2 k3 m1 m2 m3 z1 z2 HSR
   simp only[]at hx0 hx1 m1 m2 m3 x1 x2 x3 x4 HSR hsb k1 k2 k3 z1 z2
   obtain⟨A,hA⟩:∃A:Int,A=(N.natAbs:Int):=⟨_,rfl⟩
   rw[<- hA]at m1 HSR
   have e1:(sn*D).natAbs<=10485760000000000000000000000000000000:=by
    rw[yAR]
    have:sn.natAbs*D.natAbs<=sn.natAbs*400:=Nat.mul_le_mul_left _ (by omega)
    omega
   have e2:(sd*(A*1)).natAbs<=104857600000000000000000000*10000000000:=by
    rw[Int.mul_one,yAR]
    exact yAV k3 (by omega)
   have HPL:=hid (fun(X:World)=>zQS X sn sd A D 1 (by unfold B127;omega) (by unfold B127;omega) (by omega) (by omega) (by unfold B127;omega) (by unfold B127;omega) (by rw[Int.mul_one];unfold B127;omega) (by unfold B127;omega))
   rw[Int.mul_one]at HPL
   obtain⟨n1,n2,pn⟩:=WP.ex sn
   obtain⟨d1,d2,pd⟩:=WP.ex sd
   obtain⟨s1,s2,pS⟩:=WP.ex (sn*D+sd*A)
   obtain⟨q1,q2,pC⟩:=WP.ex (sd*D)
   rw[pn.sum pd,pS.sum pC]at HPL
   simp only[ratV]at HPL
   have HSS:=hid (fun(X:World) (hX:SumB X g sn sd)=>hX.set pS pC)
   have hcel:=hsb.cells pn pd
   have HPN:=hid (And.intro pn pd)
   have HSX:=hid hsb
   have HZX:=hid hzb
   have HBT:=hid hbt
   have HAN:=hid hA
   clear hsr hbx hxt hsb hzb hbt hcel pn pd pS pC hND hS hA m1 m2 m3 k1 k2 k3 z1 z2 e1 e2
   obtain⟨wx,hwx⟩:=exq (wr.alloc (.cells #[.int .i64 A,.int .i64 D] 29))
   have hbx:Below wr.heap.size wr wx:=by rw[hwx];exact(Below.refl _ _).alloc (yAC _) _
   have hsx:=HSX.out.keep (hbx.block _ HSX.out.lt)
   obtain⟨c0,c1,c2,c3,c4⟩:=hsx.cells HPN.out.1 HPN.out.2
   have HWX:=hid hwx
   have HBX:=hid hbx
   have hA0:0<=A∧A<=10000000000:=by have:=HAN.out;omega
   have HIL:=hid (show(t:Int)<(n:Int)by omega)
   have htl2:(t:Int)<(n:Int):=HIL.out
   rw[hwx]at c0 c1 c2 c3 c4
   clear hwx hbx hsx
   have hcase:(N<0∧N= -A)∨(¬N<0∧N=A):=by have:=HAN.out;omega
   rcases hcase with⟨hneg,rfl⟩|⟨hneg,rfl⟩
   all_goals
    go_wp2_with (go_at_call 96;refine(HPL.out _).mono ?_;rintro e w4 ⟨rfl,hb4⟩;refine Stop.of ?_)
    refine Stop.go ?_
    rw[<- HWX.out]at hb4
    have hbt4:=zAA HBX.out hb4
    have hs4:=HSX.out.keep (hbt4.block _ HSX.out.lt)
    clear c0 c1 c2 c3 c4
    obtain⟨c0,c1,c2,c3,c4⟩:=hs4.cells HPN.out.1 HPN.out.2
    have f0:=c4 0
    have f1:=c4 1
    have f2:=c4 2
    have f3:=c4 3
    have HNS:=hid (HSS.out _ hs4)
    obtain⟨w5,hw5⟩:=exq ((((w4.setCell ⟨g,0,none⟩ (.int .i64 s1)).setCell ⟨g,1,none⟩ (.int .u64 s2)).setCell ⟨g,2,none⟩ (.int .i64 q1)).setCell ⟨g,3,none⟩ (.int .u64 q2))
    have HW5:=hid hw5
    have k5:Keep (fun b=>b≠g) w4 w5:=by rw[hw5];exact(((Keep.set w4 g 0 _).trans (Keep.set _ g 1 _)).trans (Keep.set _ g 2 _)).trans (Keep.set _ g 3 _)
    have HK5:=hid k5
    have HB4:=hid hbt4
    clear hw5 k5 hbt4 hb4 hs4
    go_wp2
    rw[<- HW5.out]
    refine⟨⟨t+1,by omega,by go_num,?_,?_,?_⟩,by simp[intOf];omega⟩
    ·rw[HSR.out]
     have:=HNS.out
     rw[<- HW5.out]at this
     exact this
    ·exact(HK5.out.block r0 (yAJ HZX.out.sumB.lt HB4.out.size) (by have:=HRG.out.1;omega)).trans ((HB4.out.block r0 HZX.out.sumB.lt).trans HZX.out)
    ·exact HK5.out.below (zAA HBT.out HB4.out) (yAF HBT.out.size HB4.out.size) fun b hb=>by have:=HRG.out;omega
  ·obtain rfl:t=n:=by omega
   obtain⟨n1,n2,pn⟩:=WP.ex (zCU x t).1
   obtain⟨d1,d2,pd⟩:=WP.ex (zCU x t).2
   obtain⟨c0,c1,c2,c3,c4⟩:=hsb.cells pn pd
   have z0:wr.cell? ⟨r0,0,none⟩=some (.int .i64 0):=by simp[World.cell?,show wr.heap[r0]? =_ from hzb]
   have z1:wr.cell? ⟨r0,1,none⟩=some (.int .u64 0):=by simp[World.cell?,show wr.heap[r0]? =_ from hzb]
   have z2:wr.cell? ⟨r0,2,none⟩=some (.int .i64 0):=by simp[World.cell?,show wr.heap[r0]? =_ from hzb]
   have z3:wr.cell? ⟨r0,3,none⟩=some (.int .u64 0):=by simp[World.cell?,show wr.heap[r0]? =_ from hzb]
   have y0:∀o,wr.frozen? ⟨r0,o,none⟩=false:=fun o=>by simp[World.frozen?,show wr.heap[r0]? =_ from hzb]
   have y1:=y0 0
   have y2:=y0 1
   have y3:=y0 2
   have y4:=y0 3
   have hr0:=hzb.sumB.lt
   obtain⟨w5,hw5⟩:=exq ((((wr.setCell ⟨r0,0,none⟩ (.int .i64 n1)).setCell ⟨r0,1,none⟩ (.int .u64 n2)).setCell ⟨r0,2,none⟩ (.int .i64 d1)).setCell ⟨r0,3,none⟩ (.int .u64 d2))
   have hs5:SumB w5 r0 (zCU x t).1 (zCU x t).2:=by rw[hw5];exact hzb.sumB.set pn pd
   have HB5:=hid (show Below w.heap.size w w5 by rw[hw5];exact zAE (zAE (zAE (zAE hbt HRG.out.2 _ _) HRG.out.2 _ _) HRG.out.2 _ _) HRG.out.2 _ _)
   obtain⟨g0,g1,g2,g3,_⟩:=hs5.cells pn pd
   have HW5:=hid hw5
   have HSV:=hid (show sumV (nrmQ x).1 (nrmQ x).2=.agg #[.int .i64 n1,.int .u64 n2,.int .i64 d1,.int .u64 d2]by rw[HQ.out,pn.sum pd])
   have hni:¬(t:Int)<(t:Int):=by omega
   clear hsb hzb hbt hw5 hs5 pn pd
   go_wp2
   rw[<- HW5.out]
   refine bodyPost_ret (v:=.agg #[.int .i64 n1,.int .u64 n2,.int .i64 d1,.int .u64 d2]) ?_ rfl ⟨by rw[HSV.out],HB5.out⟩
   simp[results,Tryz.results82,go_sem,g0,g1,g2,g3]
end
section
def nrmS(x:List Rt):Nat->Int×Int
 |0=>(0,1)
 |k+1=>if (zAB x k).1≠0 then((nrmS x k).1*(zAB x k).2+((zAB x k).1.natAbs:Int)*(nrmS x k).2,(nrmS x k).2*(zAB x k).2)else nrmS x k
theorem nrmS_pos{x:List Rt}(h:∀k,0<(zAB x k).2):∀k,0<(nrmS x k).2∧0<=(nrmS x k).1
 |0=>by simp[nrmS]
 |k+1=>by
  have ih:=nrmS_pos h k
  have hk:=h k
  rw[nrmS]
  split
  ·exact⟨yBN ih.1 hk,Int.add_nonneg (yBY ih.2 (by omega)) (yBY (by omega) (by omega))⟩
  ·exact ih
theorem zOP{M:Mask}(hc:zAD M<=10)(y:List Int):allF M y=zBZ M y 10:=by
 have h:=fits_same M y 10
 have e:fitsR M y ((10:Nat):Int)=allF M y:=by
  unfold fitsR
  rw[List.filter_eq_self]
  intro f hf
  have:=(zQI hf).2.2
  simp;omega
 rw[<- e];exact h
theorem zPT(n:Nat):∀k,(lvls n k).Nodup∧∀x∈lvls n k,x.length<=k
 |0=>⟨zID n 0 0,fun x hx=>yGM (zCG n 0 0 x hx)⟩
 |k+1=>by
  obtain⟨h1,h2⟩:=zPT n k
  rw[lvls]
  refine⟨?_,fun x hx=>?_⟩
  ·rw[List.nodup_append]
   refine⟨h1,zID n (k+1) 0,?_⟩
   rintro x hx y hy rfl
   have:=h2 x hx
   have:=zCG n (k+1) 0 x hy
   omega
  ·rcases yCU.1 hx with h|h
   ·have:=h2 x h;omega
   ·exact yGM (zCG n (k+1) 0 x h)
theorem allS_nodup(n:Nat):(allS n).Nodup:=(zPT n n).1
theorem fits_nodup{M:Mask}{y:List Int}(hM:okM M=true):((zBZ M y 10).map (·.1)).Nodup:=by
 obtain⟨_,_,_,_,hc10⟩:=zCR hM
 rw[<- zOP hc10]
 unfold allF
 have h1:((allS (zAD M)).filterMap (fitF M y)).map (·.1)=(allS (zAD M)).filter (fun S=>(fitF M y S).isSome):=by
  induction allS (zAD M)with
  |nil=>rfl
  |cons S l ih=>
   cases h:fitF M y S with
   |none=>rw[List.filterMap_cons_none h,yGV (by simp[h]),ih]
   |some f=>rw[yGN h,yGU (by simp[h]),yFS,ih,(zMJ h).1]
 rw[h1]
 exact(List.filter_sublist).nodup (allS_nodup _)
end
section
open Go.RowKit
def RatI(w:World)(g:Nat)(r:Rt):Prop:=w.heap[g]? =some (.cells #[.int .i64 r.1,.int .i64 r.2] 29 (0,0))
theorem RatI.lt{w:World}{g:Nat}{r:Rt}(h:RatI w g r):g<w.heap.size:=(yAB.1 h).1
theorem RatI.keep{w w':World}{g:Nat}{r:Rt}(h:RatI w g r)(hk:w'.heap[g]? =w.heap[g]?):RatI w' g r:=hk.trans h
theorem RatI.cells{w:World}{g:Nat}{r:Rt}(h:RatI w g r):w.cell? ⟨g,0,none⟩=some (.int .i64 r.1)∧w.cell? ⟨g,1,none⟩=some (.int .i64 r.2)∧w.frozen? ⟨g,0,none⟩=false∧w.frozen? ⟨g,1,none⟩=false∧g<w.heap.size:=by
 have hl:=h.lt
 unfold RatI at h
 exact⟨by simp[World.cell?,h],by simp[World.cell?,h],by simp[World.frozen?,h],by simp[World.frozen?,h],hl⟩
theorem RatI.set{w:World}{g:Nat}{r p:Rt}(h:RatI w g r):RatI ((w.setCell ⟨g,0,none⟩ (.int .i64 p.1)).setCell ⟨g,1,none⟩ (.int .i64 p.2)) g p:=by
 have h1:=zAT h 0 (v:=.int .i64 p.1)
 have h2:=zAT h1 1 (v:=.int .i64 p.2)
 unfold RatI
 rw[h2];rfl
theorem RatI.made(w:World)(r:Rt):RatI (w.alloc (.cells #[.int .i64 r.1,.int .i64 r.2] 29)) w.heap.size r:=World.alloc_heap_new _ _
theorem WP.zero:WP 0 0 0:=⟨rfl,rfl⟩
theorem zBY.made0(w:World):zBY (w.alloc (.cells #[.int .i64 0,.int .u64 0] 100)) w.heap.size 0:=zBY.made w WP.zero
def RatioR(n d:Int)(e:Ending):Prop:=∃r:Rt,e=.returned (.tuple #[ratV r,.bool (zAL (zBF n d))])∧(zAL (zBF n d)=true->r=zBF n d)
def RatioLaw:Prop:=∀(w:World) (n d:Int),(-170141183460469231731687303715884105728<n∧n<170141183460469231731687303715884105728)->(0<d∧d<166153499473114484112975882535043072)->
    Calls Tryz.prog 83 #[sumV n d] w fun e w'=>RatioR n d e∧Below w.heap.size w w'
end
section
open Go.RowKit
def backB(md:Region.Mode)(ops:Array Oper):Bool:=(List.range ops.size).all fun i=>match ops[i]? with|some o=>o.after.toList.all (fun e=>!Region.binds md e||decide (e.on<i))|none=>true
def openC(listed:Array Bool):Nat:=listed.toList.countP (fun b=>!b)
theorem openC_set{listed:Array Bool}{i:Nat}(h:listed.getD i true=false):openC (listed.setIfInBounds i true)+1=openC listed:=by
 unfold openC
 have hi:i<listed.size:=by
  rcases yAP i listed.size with c|c
  ·exact c
  ·simp[c]at h
 have hf:listed.toList[i]'(by simpa using hi)=false:=by simpa[hi]using h
 rw[yEA]
 have e:listed.toList=listed.toList.take i++false::listed.toList.drop (i+1):=by
  conv=>lhs;rw[<- yCY i listed.toList]
  rw[yBD (by simpa using hi),hf]
 have e2:listed.toList.set i true=listed.toList.take i++true::listed.toList.drop (i+1):=by
  rw[yGR,if_pos (by simpa using hi)]
 rw[e2]
 conv=>rhs;rw[e]
 rw[List.countP_append,List.countP_append,List.countP_cons,List.countP_cons]
 simp
 omega
theorem AnyT.inv{P:Program}{md:Region.Mode}{ops:Array Oper}{Q:Exit->Act->World->Prop}{a0:Act}{w0:World}(I:Act->World->(Nat->Bool)->Act->World->Prop)(hb:backB md ops=true)
 (hstep:∀(L:Nat->Bool) (a:Act) (w:World) (i:Nat) (o:Oper),ops[i]? =some o->L i=false->(∀e∈o.after.toList,Region.binds md e=true->L e.on=true)->I a0 w0 L a w->wpOp P ops Q i (fun a' w'=>True∧I a0 w0 (fun j=>decide (j=i)||L j) a' w') a w)
 (hdone:∀(L:Nat->Bool) (a:Act) (w:World),(∀j,j<ops.size->L j=true)->I a0 w0 L a w->Q .normal a w):
 ∀(fuel:Nat) (listed:Array Bool) (a:Act) (w:World),listed.size=ops.size->openC listed<=fuel->I a0 w0 (fun j=>listed.getD j true) a w->AnyT P md ops Q (fun _ _=>True) fuel listed a w:=by
 have hall:∀listed:Array Bool,listed.size=ops.size->Region.ready md ops listed=[]->∀j,j<ops.size->listed.getD j true=true:=by
  intro listed hs hr j
  induction j using Nat.strongRecOn with
  |ind j ih=>
   intro hj
   rcases Bool.eq_false_or_eq_true (listed.getD j true)with c|c
   ·exact c
   ·exfalso
    have hm:j∈Region.ready md ops listed:=by
     refine mem_ready.2 ⟨c,ops[j],yDN hj,fun x hx hbx=>?_⟩
     have h1:=yAT.1 hb j (yCH.2 hj)
     rw[yDN hj]at h1
     have h2:=yAT.1 h1 x (by simpa using hx)
     rw[hbx]at h2
     have h3:x.on<j:=by simpa using h2
     have h4:=ih x.on h3 (by omega)
     have h5:x.on<listed.size:=by omega
     simpa[h5]using h4
    rw[hr]at hm;cases hm
 intro fuel
 induction fuel with
 |zero=>
  intro listed a w hs hc hI
  have hr:Region.ready md ops listed=[]:=by
   rcases h:Region.ready md ops listed with _|⟨i,l⟩
   ·rfl
   ·exfalso
    have:=(mem_ready.1 (show i∈Region.ready md ops listed by rw[h];simp)).1
    have:=openC_set this
    omega
  exact⟨hr,hdone _ a w (hall listed hs hr) hI⟩
 |succ fuel ih=>
  intro listed a w hs hc hI
  refine⟨fun hr=>hdone _ a w (hall listed hs hr) hI,fun i hi=>?_⟩
  obtain⟨hun,o,ho,hd⟩:=mem_ready.1 hi
  have h1:=openC_set hun
  refine wpOp_mono (fun a' w' h=>⟨trivial,ih _ a' w' (by simpa using hs) (by omega) ?_⟩) (hstep _ a w i o ho hun (fun e he hbe=>?_) hI)
  ·have h2:=h.2
   have:(fun j=>(listed.setIfInBounds i true).getD j true)=(fun j=>decide (j=i)||listed.getD j true):=by
    funext j
    by_cases e:j=i
    ·subst e
     by_cases c:j<listed.size<;>simp[c]
    ·have:(listed.setIfInBounds i true).getD j true=listed.getD j true:=getD_set_ne true (fun h=>e h.symm)
     rw[this];simp[e]
   rw[this];exact h2
  ·have h3:=hd e (by simpa using he) hbe
   by_cases c:e.on<listed.size
   ·simpa[c]using h3
   ·simp[c]
theorem openC_le(listed:Array Bool):openC listed<=listed.size:=by unfold openC;simpa using List.countP_le_length (l:=listed.toList) (p:=fun b=>!b)
theorem AnyT.inv0{P:Program}{md:Region.Mode}{ops:Array Oper}{Q:Exit->Act->World->Prop}{a0:Act}{w0:World}(I:Act->World->(Nat->Bool)->Act->World->Prop)(hb:backB md ops=true)
 (hstep:∀(L:Nat->Bool) (a:Act) (w:World) (i:Nat) (o:Oper),ops[i]? =some o->L i=false->(∀e∈o.after.toList,Region.binds md e=true->L e.on=true)->I a0 w0 L a w->wpOp P ops Q i (fun a' w'=>True∧I a0 w0 (fun j=>decide (j=i)||L j) a' w') a w)
 (hdone:∀(L:Nat->Bool) (a:Act) (w:World),(∀j,j<ops.size->L j=true)->I a0 w0 L a w->Q .normal a w)(h0:∀L:Nat->Bool,(∀j,j<ops.size->L j=false)->I a0 w0 L a0 w0):
 AnyT P md ops Q (fun _ _=>True) ops.size (Array.replicate ops.size false) a0 w0:=
 AnyT.inv I hb hstep hdone _ _ a0 w0 (by simp) (by have:=openC_le (Array.replicate ops.size false);simpa using this) (h0 _ (fun j hj=>by simp[hj]))
end
section
open Go.RowKit
def zDW(a:Act)(L:List Tmp)(f:Tmp->Value):Act:=L.foldl (fun a d=>a.put (some d) (f d)) a
theorem zQA:∀(L:List Tmp) (a:Act) (f:Tmp->Value),(zDW a L f).tmps.size=a.tmps.size
 | [],a,f=>rfl
 |d::L,a,f=>by
  show(zDW (a.put (some d) (f d)) L f).tmps.size=_
  rw[zQA L];simp[Act.put]
theorem zFT:∀(L:List Tmp) (a:Act) (f:Tmp->Value),(zDW a L f).defers=a.defers
 | [],a,f=>rfl
 |d::L,a,f=>by
  show(zDW (a.put (some d) (f d)) L f).defers=_
  rw[zFT L];rfl
theorem zHP:∀(L:List Tmp) (a:Act) (f:Tmp->Value) (t:Nat),(zDW a L f).tmps[t]? =if t∈L∧t<a.tmps.size then some (f t)else a.tmps[t]?
 | [],a,f,t=>by simp[zDW]
 |d::L,a,f,t=>by
  show(zDW (a.put (some d) (f d)) L f).tmps[t]? =_
  rw[zHP L]
  have hs:(a.put (some d) (f d)).tmps.size=a.tmps.size:=by simp[Act.put]
  have hg:(a.put (some d) (f d)).tmps[t]? =if d=t then(if d<a.tmps.size then some (f d)else none)else a.tmps[t]? :=by
   show(a.tmps.setIfInBounds d (f d))[t]? =_
   rw[Array.getElem?_setIfInBounds]
  rw[hs,hg]
  by_cases h2:t<a.tmps.size
  ·by_cases h1:t∈L
   ·rw[if_pos ⟨h1,h2⟩,if_pos ⟨by simp[h1],h2⟩]
   ·rw[if_neg (fun h=>h1 h.1)]
    by_cases h3:d=t
    ·subst h3;rw[if_pos rfl,if_pos h2,if_pos ⟨by simp,h2⟩]
    ·rw[if_neg h3,if_neg (fun h=>by rcases yBP.1 h.1 with e|e;exact h3 e.symm;exact h1 e)]
  ·have e0:a.tmps[t]? =none:=yCW (by omega)
   rw[if_neg (fun h=>h2 h.2)]
   have e1:(if t∈d::L∧t<a.tmps.size then some (f t)else a.tmps[t]?)=a.tmps[t]? :=if_neg (fun h=>h2 h.2)
   rw[e1,e0]
   by_cases h3:d=t
   ·subst h3;rw[if_pos rfl,if_neg h2]
   ·rw[if_neg h3]
theorem act_ext{a b:Act}(h1:∀t:Nat,a.tmps[t]? =b.tmps[t]?)(h2:a.defers=b.defers):a=b:=by
 obtain⟨at1,ad⟩:=a
 obtain⟨bt,bd⟩:=b
 have:at1=bt:=Array.ext_getElem? h1
 subst this
 have:ad=bd:=h2
 subst this
 rfl
def updF(f:Tmp->Value)(d:Tmp)(v:Value):Tmp->Value:=fun t=>if t=d then v else f t
theorem updF_same(f:Tmp->Value)(d:Tmp)(v:Value):updF f d v d=v:=by simp[updF]
theorem updF_ne{f:Tmp->Value}{d t:Tmp}{v:Value}(h:t≠d):updF f d v t=f t:=by simp[updF,h]
theorem fillA_put{a:Act}{L:List Tmp}{f:Tmp->Value}{d:Tmp}{v:Value}(hd:d∈L):(zDW a L f).put (some d) v=zDW a L (updF f d v):=by
 refine act_ext (fun t=>?_) ?_
 ·show((zDW a L f).tmps.setIfInBounds d v)[t]? =_
  rw[Array.getElem?_setIfInBounds,zQA,zHP,zHP]
  by_cases e:d=t
  ·subst e
   rw[if_pos rfl,updF_same]
   by_cases h2:d<a.tmps.size
   ·simp[hd,h2]
   ·simp[h2]
  ·rw[if_neg e,updF_ne (fun h=>e h.symm)]
 ·show(zDW a L f).defers=_
  rw[zFT,zFT]
theorem fillA_self(a:Act)(L:List Tmp):zDW a L (fun t=>a.tmps.getD t undef)=a:=by
 refine act_ext (fun t=>?_) (zFT _ _ _)
 rw[zHP]
 split
 ·rename_i h
  simp[h.2]
 ·rfl
def zAF(a:Act)(L:List Tmp)(f:Tmp->Value):Operand->Value
 | .tmp t=>if t∈L∧t<a.tmps.size then f t else a.eval (.tmp t)
 |x=>a.eval x
theorem fillA_eval(a:Act)(L:List Tmp)(f:Tmp->Value):(zDW a L f).eval=zAF a L f:=by
 funext x
 cases x with
 |tmp t=>
  have h:=zHP L a f t
  show(zDW a L f).tmps.getD t undef=if t∈L∧t<a.tmps.size then f t else a.tmps.getD t undef
  rw[Array.getD_eq_getD_getElem?,h]
  split
  ·rfl
  ·rw[Array.getD_eq_getD_getElem?]
 |const v=>rfl
 |«global» g=>rfl
 |func f=>rfl
def zAW(P:Program)(o:Oper)(ev:Operand->Value)(w:World)(K:Value->World->Prop):Prop:=
 o.guard=none∧((∃v w',(execOp ev o).run P w=.ok (.value v) w'∧K v w')∨(∃w',(execOp ev o).run P w=.ok .skip w'∧K undef w')∨
  (∃g args w',(execOp ev o).run P w=.ok (.enter g args) w'∧Calls P g args w' fun e w''=>∃v,e=.returned v∧K v w''))
theorem zAW.val{P:Program}{o:Oper}{ev:Operand->Value}{w w':World}{K:Value->World->Prop}{v:Value}(hg:o.guard=none)(h:(execOp ev o).run P w=.ok (.value v) w')(hK:K v w'):zAW P o ev w K:=⟨hg,.inl ⟨v,w',h,hK⟩⟩
theorem zAW.skip{P:Program}{o:Oper}{ev:Operand->Value}{w w':World}{K:Value->World->Prop}(hg:o.guard=none)(h:(execOp ev o).run P w=.ok .skip w')(hK:K undef w'):zAW P o ev w K:=⟨hg,.inr (.inl ⟨w',h,hK⟩)⟩
theorem zAW.call{P:Program}{o:Oper}{ev:Operand->Value}{w w':World}{K:Value->World->Prop}{g:FuncId}{args:Array Value}(hg:o.guard=none)(h:(execOp ev o).run P w=.ok (.enter g args) w')(hK:Calls P g args w' fun e w''=>∃v,e=.returned v∧K v w''):zAW P o ev w K:=⟨hg,.inr (.inr ⟨g,args,w',h,hK⟩)⟩
def setF(o:Oper)(f:Tmp->Value)(v:Value):Tmp->Value:=match o.dst with|some d=>updF f d v|none=>f
def dstIn(ops:Array Oper)(L:List Tmp):Bool:=ops.toList.all fun o=>match o.dst with|some d=>L.contains d|none=>true
theorem AnyT.regF{P:Program}{md:Region.Mode}{ops:Array Oper}{Q:Exit->Act->World->Prop}{a0:Act}{w0:World}(L:List Tmp)(J:(Nat->Bool)->(Tmp->Value)->World->Prop)(hb:backB md ops=true)
 (hLb:dstIn ops L=true)
 (hstep:∀(l:Nat->Bool) (f:Tmp->Value) (w:World) (i:Nat) (o:Oper),ops[i]? =some o->l i=false->(∀e∈o.after.toList,Region.binds md e=true->l e.on=true)->J l f w->zAW P o (zAF a0 L f) w (fun v w'=>J (fun j=>decide (j=i)||l j) (setF o f v) w'))
 (hdone:∀(l:Nat->Bool) (f:Tmp->Value) (w:World),(∀j,j<ops.size->l j=true)->J l f w->Q .normal (zDW a0 L f) w)
 (h0:∀(l:Nat->Bool) (f:Tmp->Value),(∀j,j<ops.size->l j=false)->J l f w0):AnyT P md ops Q (fun _ _=>True) ops.size (Array.replicate ops.size false) a0 w0:=by
 have hL:∀(i:Nat) (o:Oper),ops[i]? =some o->∀d,o.dst=some d->d∈L:=fun i o ho d hd=>by
  obtain⟨hlt,hk⟩:=yAB.1 ho
  have h1:=yAT.1 hLb o (by rw[<- hk];simp)
  rw[hd]at h1
  simpa using h1
 refine AnyT.inv0 (fun a0 w0 l a w=>∃f,a=zDW a0 L f∧J l f w) hb ?_ ?_ ?_
 ·rintro l a w i o ho hi hd ⟨f,rfl,hJ⟩
  obtain⟨hg,hs⟩:=hstep l f w i o ho hi hd hJ
  have hput:∀v,(zDW a0 L f).put o.dst v=zDW a0 L (setF o f v):=fun v=>by
   unfold setF
   cases e:o.dst with
   |none=>rfl
   |some d=>exact fillA_put (hL i o ho d e)
  unfold wpOp
  simp only[ho]
  have hw:Region.wanted o (yielded ops (zDW a0 L f).tmps)=true:=by unfold Region.wanted;rw[hg]
  rw[if_pos hw]
  refine .inl ?_
  unfold Oper.wp
  rw[fillA_eval]
  rcases hs with⟨v,w',h,hK⟩|⟨w',h,hK⟩|⟨g,args,w',h,hK⟩
  ·rw[h]
   show True∧∃f',_=zDW a0 L f'∧_
   exact⟨trivial,_,hput v,hK⟩
  ·rw[h]
   show True∧∃f',_=zDW a0 L f'∧_
   exact⟨trivial,_,hput _,hK⟩
  ·rw[h]
   show Calls P g args w' _
   refine hK.mono ?_
   rintro e w'' ⟨v,rfl,hK⟩
   exact⟨trivial,_,hput v,hK⟩
 ·rintro l a w hall ⟨f,rfl,hJ⟩
  exact hdone l f w hall hJ
 ·intro l hl
  exact⟨_,(fillA_self a0 L).symm,h0 l _ hl⟩
theorem zEZ{P:Program}{md:Region.Mode}{ops:Array Oper}{Q:Exit->Act->World->Prop}{T:Nat->World->Prop}{fuel:Nat}{listed:Array Bool}{a:Act}{w:World}(h:∀a0,a0=a->AnyT P md ops Q T fuel listed a0 w):AnyT P md ops Q T fuel listed a w:=h a rfl
end
section
open Go.RowKit
theorem sratio_c(w:World)(n d:Int)(hn: -170141183460469231731687303715884105728<n∧n<170141183460469231731687303715884105728)(hd:0<d∧d<166153499473114484112975882535043072):
 Calls Tryz.prog 83 #[sumV n d] w fun e w'=>RatioR n d e∧Below w.heap.size w w':=by
 obtain⟨N,hN⟩:∃N:Int,N=(n.natAbs:Int):=⟨_,rfl⟩
 obtain⟨n1,n2,pn⟩:=WP.ex n
 obtain⟨d1,d2,pd⟩:=WP.ex d
 obtain⟨m1,m2,pm⟩:=WP.ex N
 obtain⟨q1,q2,pq⟩:=WP.ex (N/d)
 obtain⟨r1,r2,pr⟩:=WP.ex (N%d)
 have HSG:=hid (show ∀X:World,Calls Tryz.prog 148 #[.agg #[.int .i64 n1,.int .u64 n2]] X fun e w'=>e=.returned (.int .i64 (cmpI n 0))∧Below X.heap.size X w' from fun X=>by
  have:=zKF X n hn
  rw[pn.val]at this;exact this)
 have HOP:=hid (show n<0->∀X:World,Calls Tryz.prog 149 #[.agg #[.int .i64 n1,.int .u64 n2]] X fun e w'=>e=.returned (.agg #[.int .i64 m1,.int .u64 m2])∧Below X.heap.size X w' from fun h X=>by
  have:=zML X n hn
  rw[pn.val,show-n=N by omega,pm.val]at this;exact this)
 have HOV:=hid (show ∀X:World,Calls Tryz.prog 150 #[.agg #[.int .i64 m1,.int .u64 m2],.agg #[.int .i64 d1,.int .u64 d2]] X fun e w'=>e=.returned (.tuple #[.agg #[.int .i64 q1,.int .u64 q2],.agg #[.int .i64 r1,.int .u64 r2]])∧Below X.heap.size X w' from fun X=>by
  have:=zQK X N d (by omega) (by omega)
  rw[pm.val,pd.val,pq.val,pr.val]at this;exact this)
 have hmn:¬n<0->m1=n1∧m2=n2:=fun h=>by
  have e:N=n:=by omega
  rw[pm.1,pm.2,pn.1,pn.2,e];exact⟨rfl,rfl⟩
 rw[pn.sum pd]
 obtain⟨s,hs⟩:=exq (w.heap.size)
 obtain⟨wz,hwz⟩:=exq (((w.alloc (.cells #[.int .i64 n1,.int .u64 n2,.int .i64 d1,.int .u64 d2] 102)).alloc (.cells #[.int .i64 0,.int .i64 0] 29)).alloc (.cells #[.int .i64 n1,.int .u64 n2] 100))
 have hsz:wz.heap.size=s+3:=by rw[hwz,hs];simp
 have SZ:SumB wz s n d:=by
  rw[hwz,hs]
  exact((SumB.made w pn pd).keep (Below.heap_alloc _ _ _ (by simp))).keep (Below.heap_alloc _ _ _ (by simp;omega))
 have RZ:wz.heap[s+1]? =some (.cells #[.int .i64 0,.int .i64 0] 29 (0,0)):=by
  have h:=World.alloc_heap_new (w.alloc (.cells #[.int .i64 n1,.int .u64 n2,.int .i64 d1,.int .u64 d2] 102)) (.cells #[.int .i64 0,.int .i64 0] 29)
  rw[World.size_alloc]at h
  rw[hwz,hs,Below.heap_alloc _ _ _ (by simp)]
  exact h
 have NZ:zBY wz (s+2) n:=by
  have h:=zBY.made ((w.alloc (.cells #[.int .i64 n1,.int .u64 n2,.int .i64 d1,.int .u64 d2] 102)).alloc (.cells #[.int .i64 0,.int .i64 0] 29)) pn
  rw[World.size_alloc,World.size_alloc]at h
  rw[hwz,hs]
  exact h
 have BZ:Below w.heap.size w wz:=by rw[hwz];exact(((Below.refl _ _).alloc (yAC _) _).alloc (by simp) _).alloc (by simp;omega) _
 have HSZ:=hid hsz
 have HS:=hid SZ
 have HR:=hid RZ
 have HN0:=hid NZ
 have HB:=hid BZ
 have PN:=hid pn
 have PD:=hid pd
 have PM:=hid pm
 have PQ:=hid pq
 have PR:=hid pr
 have HNE:=hid hN
 have HSV:=hid hs
 have HND:=hid (And.intro hn hd)
 have hsg:(n<0∧cmpI n 0<0)∨(¬n<0∧¬cmpI n 0<0∧m1=n1∧m2=n2):=by
  by_cases h:n<0
  ·exact .inl ⟨h,by unfold cmpI;rw[if_pos h];decide⟩
  ·exact .inr ⟨h,by unfold cmpI;rw[if_neg h];split<;>decide,hmn h⟩
 have HSG2:=hid hsg
 clear hsg hsz SZ RZ NZ BZ pn pd pm pq pr hN hn hd hmn
 go_enter Tryz.func83,Tryz.ntmps83
 go_upto_region 2 with fail
 rw[<- hs,<- hwz]
 clear hs hwz
 obtain⟨v0,v1,v2,v3,v4⟩:=HN0.out.cells PN.out
 go_upto_if 15 with (go_at_call 148;refine(HSG.out _).mono ?_;rintro e w1 ⟨rfl,hb1⟩;refine Stop.of ?_)
 refine Stop.go ?_
 have HB1:=hid hb1
 clear hb1 v0 v1 v2 v3 v4
 go_upto_if 15 with fail
 go_cut [3]from 13 to 17 (fun v wx=>v=.bool false∧SumB wx s n d∧wx.heap[s+1]? =some (.cells #[.int .i64 0,.int .i64 0] 29 (0,0))∧zBY wx (s+2) N∧Below w.heap.size w wx)
 case first=>
  have hN2:=HN0.out.keep (HB1.out.block _ HN0.out.lt)
  have hS2:=HS.out.keep (HB1.out.block _ HS.out.lt)
  have hR2:=(HB1.out.block (s+1) (by have:=HSZ.out;omega)).trans HR.out
  rcases HSG2.out with⟨h1,h2⟩|⟨h1,h2,h3,h4⟩
  ·have HO:=hid (HOP.out h1)
   have HN2:=hid hN2
   have HS2:=hid hS2
   have HR2:=hid hR2
   obtain⟨v0,v1,v2,v3,v4⟩:=hN2.cells PN.out
   clear hN2 hS2 hR2
   go_wp2_with (go_at_call 149;refine(HO.out _).mono ?_;rintro e w2 ⟨rfl,hb2⟩;refine Stop.of ?_)
   refine Stop.go ?_
   have hN3:=HN2.out.keep (hb2.block _ HN2.out.lt)
   have hS3:=HS2.out.keep (hb2.block _ HS2.out.lt)
   have hR3:=(hb2.block (s+1) (by have:=HSZ.out;have:=HB1.out.size;omega)).trans HR2.out
   have HN3:=hid hN3
   have K:=zBQ w2 (s+2) (.int .i64 m1) (.int .u64 m2)
   have X1:=hid (zBY.set hN3 PM.out)
   have X2:=hid (hS3.keep (K.block s hS3.lt (by show s≠s+2;omega)))
   have X3:=hid ((K.block (s+1) (by have:=hN3.lt;omega) (by show s+1≠s+2;omega)).trans hR3)
   have X4:=hid (K.below (zAA HB.out (zAA HB1.out hb2)) (by have:=hN3.lt;have:=HSV.out;omega) (fun k hk=>by have:=HSV.out;show k≠s+2;omega))
   clear v0 v1 v2 v3 v4
   obtain⟨v0,v1,v2,v3,v4⟩:=HN3.out.cells PN.out
   clear hN3 hS3 hR3 hb2 K
   go_wp2
   go_meet
   case rel=>exact⟨rfl,X2.out,X3.out,X1.out,X4.out⟩
  ·have hNn:N=n:=by have:=HNE.out;omega
   have HX:=hid (And.intro hS2 (And.intro hR2 (And.intro hN2 (zAA HB.out HB1.out))))
   rw[<- hNn]at HX
   have HNN:=hid hNn
   clear hN2 hS2 hR2 hNn h3 h4
   go_wp2
   go_meet
   case rel=>exact⟨rfl,by rw[<- HNN.out];exact HX.out.1,HX.out.2.1,HX.out.2.2.1,HX.out.2.2.2⟩
 case rest=>
  obtain⟨rfl,hS,hR,hN,hBc⟩:=hcut
  obtain⟨v0,v1,v2,v3,v4⟩:=hN.cells PM.out
  obtain⟨c0,c1,c2,c3⟩:=hS.cells PN.out PD.out
  have HS1:=hid hS
  have HR1:=hid hR
  have HN1:=hid hN
  have HBC:=hid hBc
  clear hS hR hN hBc HOP HB1 HN0 HS HR HB HSZ
  go_wp2_with (go_at_call 150;refine(HOV.out _).mono ?_;rintro e w2 ⟨rfl,hb2⟩;refine Stop.of ?_)
  refine Stop.go ?_
  obtain⟨u,hu⟩:=exq (w2.heap.size)
  obtain⟨w3,hw3⟩:=exq ((w2.alloc (.cells #[.int .i64 q1,.int .u64 q2] 100)).alloc (.cells #[.int .i64 r1,.int .u64 r2] 100))
  have hb3:Below wc.heap.size wc w3:=by rw[hw3];exact(hb2.alloc hb2.size _).alloc (by have:=hb2.size;simp;omega) _
  have hs3:w3.heap.size=u+2:=by rw[hw3,hu];simp
  have Q3:zBY w3 u (N/d):=by rw[hw3,hu];exact(zBY.made w2 PQ.out).keep (Below.heap_alloc _ _ _ (by simp))
  have R3:zBY w3 (u+1) (N%d):=by
   have h:=zBY.made (w2.alloc (.cells #[.int .i64 q1,.int .u64 q2] 100)) PR.out
   rw[World.size_alloc]at h
   rw[hw3,hu];exact h
  have S3:=hid (HS1.out.keep (hb3.block _ HS1.out.lt))
  have T3:=hid ((hb3.block (s+1) (by have:=HN1.out.lt;omega)).trans HR1.out)
  have B3:=hid (zAA HBC.out hb3)
  have hsu:s+2<u:=by have:=HN1.out.lt;have:=hb2.size;omega
  have HQ3:=hid Q3
  have HR3:=hid R3
  have HS3:=hid hs3
  have HSU:=hid hsu
  clear hb3 hs3 Q3 R3 hsu v0 v1 v2 v3 v4 c0 c1 c2 c3 hb2 HOV
  go_upto_region 5 with fail
  rw[<- hu,<- hw3]
  clear hu hw3
  obtain⟨g,a,b,hab,hg,hb,hNa,hdb,hcop⟩:=zNN (n:=N) HND.out.2.1
  have hN0:0<=N:=by have:=HNE.out;omega
  have hq0:0<=N/d:=yEW hN0 (by have:=HND.out.2.1;omega)
  have hqw:q1=N/d/18446744073709551616∧q2=N/d%18446744073709551616:=PQ.out
  have hqN:N/d<=N:=yGH _ hN0
  -- the answer by the one without its sign
  have hval:zAL (zBF n d)=zAL (a,b)∧zBF n d=(if n<0 then-a else a,b):=by
   have hd0:=HND.out.2.1
   by_cases h:n<0
   ·have e:n= -N:=by have:=HNE.out;omega
    rw[e,low_neg hd0,hab,if_pos (by have:=HNE.out;omega)]
    exact⟨zPC,rfl⟩
   ·have e:n=N:=by have:=HNE.out;omega
    rw[e,hab,if_neg (by omega)]
    exact⟨rfl,rfl⟩
  have HVAL:=hid hval
  have HLOW:=hid (And.intro hab (And.intro hg (And.intro hb (And.intro hNa (And.intro hdb hcop)))))
  obtain⟨c0,c1,c2,c3,c4⟩:=HQ3.out.cells PQ.out
  have T4:RatI w3 (s+1) (0,0):=T3.out
  have HT4:=hid T4
  by_cases hbig:10000000000<N/d
  ·have hno:zAL (a,b)=false:=by rw[<- hab];exact low_big hN0 HND.out.2.1 hbig
   have hcase:(q1 !=0)=true∨(q1=0∧10000000000<q2):=by
    by_cases h:q1=0
    ·right;exact⟨h,by omega⟩
    ·left;simpa using h
   have HNO:=hid (hval.1.trans hno)
   have HCS:=hid hcase
   clear hcase hno hval hab hg hb hNa hdb hcop hN0 hq0 hqw hqN hbig
   obtain⟨t0,t1,t2,t3,t4⟩:=T4.cells
   clear T4
   have K:=zBQ w3 (s+1) (.int .i64 0) (.int .i64 0)
   have X1:=hid (RatI.set (p:=(0,0)) HT4.out)
   have X2:=hid (K.below B3.out (by have:=HSU.out;have:=HS3.out;have:=HSV.out;omega) (fun k hk=>by have:=HSV.out;show k≠s+1;omega))
   clear K
   rcases HCS.out with h|⟨h1,h2⟩
   all_goals
    first|subst h1|skip
    go_wp2
    clear t0 t1 t2 t3 t4
    generalize (w3.setCell ⟨s+1,0,none⟩ (.int .i64 0)).setCell ⟨s+1,1,none⟩ (.int .i64 0)=WF at X1 X2⊢
    obtain⟨t0,t1,t2,t3,t4⟩:=X1.out.cells
    refine bodyPost_ret (v:=.tuple #[.agg #[.int .i64 0,.int .i64 0],.bool false]) ?_ rfl ⟨⟨(0,0),by rw[HNO.out];rfl,fun h=>by rw[HNO.out]at h;cases h⟩,X2.out⟩
    simp[results,Tryz.results83,go_sem,t0,t1,t2,t3,t4]
  ·have hq1:q1=0:=by omega
   have hq2:q2=N/d:=by omega
   subst hq1
   have hq10:¬10000000000<q2:=by omega
   have hq2':0<=q2∧q2<=10000000000:=by omega
   have HQ2:=hid hq2
   have hd0:=HND.out.2.1
   have hrd:0<=N%d∧N%d<d:=⟨yDX _ (by omega),yDY _ hd0⟩
   have HRD:=hid hrd
   have HB0:=hid hb
   have HSX:=hid (show ∀X:World,Below w3.heap.size w3 X->X.cell? ⟨u+1,0,none⟩=some (.int .i64 r1)∧X.cell? ⟨u+1,1,none⟩=some (.int .u64 r2)∧X.cell? ⟨s,2,none⟩=some (.int .i64 d1)∧X.cell? ⟨s,3,none⟩=some (.int .u64 d2)from fun X hX=>by
    obtain⟨a0,a1,_⟩:=(HR3.out.keep (hX.block _ HR3.out.lt)).cells PR.out
    obtain⟨b0,b1,b2,b3,_⟩:=(S3.out.keep (hX.block _ S3.out.lt)).cells PN.out PD.out
    exact⟨a0,a1,b2,b3⟩)
   clear hval hab hg hb hNa hdb hcop hN0 hq0 hqw hqN hbig T4 hq2 hd0 hrd
   go_wp2
   clear c0 c1 c2 c3 c4
   go_loopw [7] (fun v wr=>∃k:Nat,k<=400∧v=.int .i64 ((k:Int)+1)∧(∀j:Int,1<=j->j<=k->¬b∣j)∧Below w3.heap.size w3 wr) (fun v _=>401-(intOf v).toNat)
   case atStart=>exact⟨0,by omega,rfl,fun j h1 h2=>by omega,Below.refl _ _⟩
   case round=>
    obtain⟨k,hk,rfl,hnd,hbk⟩:=hrel
    by_cases hlt:k<400
    ·have HNDV:=hid hnd
     have HBK:=hid hbk
     have hRD:=HRD.out
     have hNDd:=HND.out.2
     obtain⟨x1,x2,px⟩:=WP.ex (N%d*((k:Int)+1))
     obtain⟨Y,hYe⟩:=exq (N%d*((k:Int)+1)/d)
     obtain⟨Z,hZe⟩:=exq (N%d*((k:Int)+1)%d)
     obtain⟨y1,y2,py⟩:=WP.ex Y
     obtain⟨z1,z2,pz⟩:=WP.ex Z
     have hxb:0<=N%d*((k:Int)+1)∧N%d*((k:Int)+1)<=d*400:=by
      refine⟨yBY (by omega) (by omega),?_⟩
      exact Int.mul_le_mul (by omega) (by omega) (by omega) (by omega)
     have HTI:=hid (show ∀X:World,Calls Tryz.prog 151 #[.agg #[.int .i64 r1,.int .u64 r2],.int .i64 ((k:Int)+1)] X fun e w'=>e=.returned (.agg #[.int .i64 x1,.int .u64 x2])∧Below X.heap.size X w' from fun X=>by
      have:=zIY X (N%d) ((k:Int)+1) (by omega) (by omega) (by
       have e:(((N%d).natAbs*((k:Int)+1).natAbs:Nat):Int)=N%d*((k:Int)+1):=by rw[yCP];congr 1<;>omega
       omega)
      rw[PR.out.val,px.val]at this;exact this)
     have HOV:=hid (show ∀X:World,Calls Tryz.prog 150 #[.agg #[.int .i64 x1,.int .u64 x2],.agg #[.int .i64 d1,.int .u64 d2]] X fun e w'=>e=.returned (.tuple #[.agg #[.int .i64 y1,.int .u64 y2],.agg #[.int .i64 z1,.int .u64 z2]])∧Below X.heap.size X w' from fun X=>by
      have:=zQK X (N%d*((k:Int)+1)) d (by omega) (by omega)
      rw[px.val,PD.out.val,<- hYe,<- hZe,py.val,pz.val]at this;exact this)
     have HYE:=hid hYe
     have HZE:=hid hZe
     have PX:=hid px
     have PY:=hid py
     have PZ:=hid pz
     clear hnd hbk hRD hNDd hxb px py pz hYe hZe
     go_wp2
     refine zAG (fun _ _=>True) (by kernel_rfl) ?_
     obtain⟨wd,hwd⟩:=exq (wr.drew)
     have hbd:Below wr.heap.size wr wd:=by rw[hwd];exact(Below.refl _ _).drew
     rw[<- hwd]
     have HBD:=hid (zAA HBK.out hbd)
     have HWD:=hid hwd
     clear hbd hwd
     refine zEZ fun a0 ha0=>?_
     have hsz:a0.tmps.size=73:=by rw[ha0];rfl
     have v6:a0.eval (.tmp 6)=.pointer (some ⟨u+1,0,none⟩):=by rw[ha0];rfl
     have v7:a0.eval (.tmp 7)=.int .i64 ((k:Int)+1):=by rw[ha0];rfl
     have v1:a0.eval (.tmp 1)=.pointer (some ⟨s,0,none⟩):=by rw[ha0];rfl
     have HA0:=hid ha0
     clear ha0
     refine AnyT.regF [8,9,38,39,40,41,42,43,44,45,46] (fun l f w=>Below wd.heap.size wd w∧(l 0=true->f 39=.agg #[.int .i64 r1,.int .u64 r2])∧(l 1=true->f 40=.int .i64 ((k:Int)+1))∧(l 2=true->f 41=.agg #[.int .i64 x1,.int .u64 x2])∧(l 3=true->f 42=.pointer (some ⟨s,2,none⟩))∧(l 4=true->f 43=.agg #[.int .i64 d1,.int .u64 d2])∧(l 5=true->f 44=.tuple #[.agg #[.int .i64 y1,.int .u64 y2],.agg #[.int .i64 z1,.int .u64 z2]])∧(l 6=true->f 38=.tuple #[.agg #[.int .i64 y1,.int .u64 y2],.agg #[.int .i64 z1,.int .u64 z2]])∧(l 7=true->f 45=.agg #[.int .i64 y1,.int .u64 y2])∧(l 8=true->f 46=.agg #[.int .i64 z1,.int .u64 z2])∧(l 9=true->∃g,f 8=.pointer (some ⟨g,0,none⟩)∧wd.heap.size<=g∧(l 11=false->zBY w g 0)∧(l 11=true->zBY w g Y))∧(l 10=true->∃g,f 9=.pointer (some ⟨g,0,none⟩)∧wd.heap.size<=g∧(l 12=false->zBY w g 0)∧(l 12=true->zBY w g Z))∧(l 9=true->l 10=true->f 8≠f 9)∧(l 11=true->l 9=true)∧(l 12=true->l 10=true)) (by kernel_rfl) (by kernel_rfl) ?_ ?_ ?_
     ·have eg1:∀args w,(callFunc 151 args).run Tryz.prog w=.ok (.enter 151 args) w:=enters_of Tryz.func151 (by kernel_rfl) rfl
      have eg2:∀args w,(callFunc 150 args).run Tryz.prog w=.ok (.enter 150 args) w:=enters_of Tryz.func150 (by kernel_rfl) rfl
      rintro l f w i o ho hi hd ⟨hb,h0,h1,h2,h3,h4,h5,h6,h7,h8,h9,h10,hne,hq11,hq12⟩
      have e39:zAF a0 [8,9,38,39,40,41,42,43,44,45,46] f (.tmp 39)=f 39:=by simp[zAF,hsz]
      have e40:zAF a0 [8,9,38,39,40,41,42,43,44,45,46] f (.tmp 40)=f 40:=by simp[zAF,hsz]
      have e41:zAF a0 [8,9,38,39,40,41,42,43,44,45,46] f (.tmp 41)=f 41:=by simp[zAF,hsz]
      have e42:zAF a0 [8,9,38,39,40,41,42,43,44,45,46] f (.tmp 42)=f 42:=by simp[zAF,hsz]
      have e43:zAF a0 [8,9,38,39,40,41,42,43,44,45,46] f (.tmp 43)=f 43:=by simp[zAF,hsz]
      have e44:zAF a0 [8,9,38,39,40,41,42,43,44,45,46] f (.tmp 44)=f 44:=by simp[zAF,hsz]
      have e38:zAF a0 [8,9,38,39,40,41,42,43,44,45,46] f (.tmp 38)=f 38:=by simp[zAF,hsz]
      have e45:zAF a0 [8,9,38,39,40,41,42,43,44,45,46] f (.tmp 45)=f 45:=by simp[zAF,hsz]
      have e46:zAF a0 [8,9,38,39,40,41,42,43,44,45,46] f (.tmp 46)=f 46:=by simp[zAF,hsz]
      have e8:zAF a0 [8,9,38,39,40,41,42,43,44,45,46] f (.tmp 8)=f 8:=by simp[zAF,hsz]
      have e9:zAF a0 [8,9,38,39,40,41,42,43,44,45,46] f (.tmp 9)=f 9:=by simp[zAF,hsz]
      have eF1:zAF a0 [8,9,38,39,40,41,42,43,44,45,46] f (.func 151)=.func (.func 151) #[] #[]:=rfl
      have eF2:zAF a0 [8,9,38,39,40,41,42,43,44,45,46] f (.func 150)=.func (.func 150) #[] #[]:=rfl
      have w6:zAF a0 [8,9,38,39,40,41,42,43,44,45,46] f (.tmp 6)=.pointer (some ⟨u+1,0,none⟩):=by simp[zAF,v6]
      have w7:zAF a0 [8,9,38,39,40,41,42,43,44,45,46] f (.tmp 7)=.int .i64 ((k:Int)+1):=by simp[zAF,v7]
      have w1':zAF a0 [8,9,38,39,40,41,42,43,44,45,46] f (.tmp 1)=.pointer (some ⟨s,0,none⟩):=by simp[zAF,v1]
      obtain⟨o1,o2,o3,o4⟩:=HSX.out _ (zAA HBD.out hb)
      rcases i with _|_|_|_|_|_|_|_|_|_|_|_|_|i
      ·replace ho:=Option.some.inj ho
       subst ho
       refine zAW.val (w':=w) (v:=.agg #[.int .i64 r1,.int .u64 r2]) rfl (by go_simp) ⟨hb,fun _=>rfl,h1,h2,h3,h4,h5,h6,h7,h8,h9,h10,hne,hq11,hq12⟩
      ·replace ho:=Option.some.inj ho
       subst ho
       refine zAW.val (w':=w) (v:=.int .i64 ((k:Int)+1)) rfl (by go_simp) ⟨hb,h0,fun _=>rfl,h2,h3,h4,h5,h6,h7,h8,h9,h10,hne,hq11,hq12⟩
      ·replace ho:=Option.some.inj ho
       subst ho
       have k0:=h0 (hd {on:=0,ground:=.data} (by simp) (by kernel_rfl))
       rw[k0]at e39
       have k1:=h1 (hd {on:=1,ground:=.data} (by simp) (by kernel_rfl))
       rw[k1]at e40
       refine zAW.call (g:=151) (args:=#[.agg #[.int .i64 r1,.int .u64 r2],.int .i64 ((k:Int)+1)]) (w':=w) rfl (by simp[execOp,resolve,invoke,go_sem,e39,e40,eF1,eg1]) ((HTI.out w).mono ?_)
       rintro e w4 ⟨rfl,hb4⟩
       exact⟨_,rfl,zAA hb hb4,h0,h1,fun _=>rfl,h3,h4,h5,h6,h7,h8,fun h=>by obtain⟨g,g1,g2,g3,g4⟩:=h9 h;exact⟨g,g1,g2,fun h=>(g3 h).keep (hb4.block _ (g3 h).lt),fun h=>(g4 h).keep (hb4.block _ (g4 h).lt)⟩,fun h=>by obtain⟨g,g1,g2,g3,g4⟩:=h10 h;exact⟨g,g1,g2,fun h=>(g3 h).keep (hb4.block _ (g3 h).lt),fun h=>(g4 h).keep (hb4.block _ (g4 h).lt)⟩,hne,hq11,hq12⟩
      ·replace ho:=Option.some.inj ho
       subst ho
       refine zAW.val (w':=w) (v:=.pointer (some ⟨s,2,none⟩)) rfl (by go_simp) ⟨hb,h0,h1,h2,fun _=>rfl,h4,h5,h6,h7,h8,h9,h10,hne,hq11,hq12⟩
      ·replace ho:=Option.some.inj ho
       subst ho
       have k3:=h3 (hd {on:=3,ground:=.data} (by simp) (by kernel_rfl))
       rw[k3]at e42
       refine zAW.val (w':=w) (v:=.agg #[.int .i64 d1,.int .u64 d2]) rfl (by go_simp) ⟨hb,h0,h1,h2,h3,fun _=>rfl,h5,h6,h7,h8,h9,h10,hne,hq11,hq12⟩
      ·replace ho:=Option.some.inj ho
       subst ho
       have k2:=h2 (hd {on:=2,ground:=.data} (by simp) (by kernel_rfl))
       rw[k2]at e41
       have k4:=h4 (hd {on:=4,ground:=.data} (by simp) (by kernel_rfl))
       rw[k4]at e43
       refine zAW.call (g:=150) (args:=#[.agg #[.int .i64 x1,.int .u64 x2],.agg #[.int .i64 d1,.int .u64 d2]]) (w':=w) rfl (by simp[execOp,resolve,invoke,go_sem,e41,e43,eF2,eg2]) ((HOV.out w).mono ?_)
       rintro e w4 ⟨rfl,hb4⟩
       exact⟨_,rfl,zAA hb hb4,h0,h1,h2,h3,h4,fun _=>rfl,h6,h7,h8,fun h=>by obtain⟨g,g1,g2,g3,g4⟩:=h9 h;exact⟨g,g1,g2,fun h=>(g3 h).keep (hb4.block _ (g3 h).lt),fun h=>(g4 h).keep (hb4.block _ (g4 h).lt)⟩,fun h=>by obtain⟨g,g1,g2,g3,g4⟩:=h10 h;exact⟨g,g1,g2,fun h=>(g3 h).keep (hb4.block _ (g3 h).lt),fun h=>(g4 h).keep (hb4.block _ (g4 h).lt)⟩,hne,hq11,hq12⟩
      ·replace ho:=Option.some.inj ho
       subst ho
       have k5:=h5 (hd {on:=5,ground:=.data} (by simp) (by kernel_rfl))
       rw[k5]at e44
       refine zAW.val (w':=w) (v:=.tuple #[.agg #[.int .i64 y1,.int .u64 y2],.agg #[.int .i64 z1,.int .u64 z2]]) rfl (by go_simp) ⟨hb,h0,h1,h2,h3,h4,h5,fun _=>rfl,h7,h8,h9,h10,hne,hq11,hq12⟩
      ·replace ho:=Option.some.inj ho
       subst ho
       have k6:=h6 (hd {on:=6,ground:=.data} (by simp) (by kernel_rfl))
       rw[k6]at e38
       refine zAW.val (w':=w) (v:=.agg #[.int .i64 y1,.int .u64 y2]) rfl (by go_simp) ⟨hb,h0,h1,h2,h3,h4,h5,h6,fun _=>rfl,h8,h9,h10,hne,hq11,hq12⟩
      ·replace ho:=Option.some.inj ho
       subst ho
       have k6:=h6 (hd {on:=6,ground:=.data} (by simp) (by kernel_rfl))
       rw[k6]at e38
       refine zAW.val (w':=w) (v:=.agg #[.int .i64 z1,.int .u64 z2]) rfl (by go_simp) ⟨hb,h0,h1,h2,h3,h4,h5,h6,h7,fun _=>rfl,h9,h10,hne,hq11,hq12⟩
      ·replace ho:=Option.some.inj ho
       subst ho
       have hbn:Below wd.heap.size wd (w.alloc (.cells #[.int .i64 0,.int .u64 0] 100)):=hb.alloc hb.size _
       refine zAW.val (w':=w.alloc (.cells #[.int .i64 0,.int .u64 0] 100)) (v:=.pointer (some ⟨w.heap.size,0,none⟩)) rfl (by go_simp) ⟨hbn,h0,h1,h2,h3,h4,h5,h6,h7,h8,?_,?_,?_⟩
       ·intro _;exact⟨w.heap.size,rfl,hb.size,fun _=>zBY.made0 w,fun h=>absurd (hq11 h) (by rw[hi];decide)⟩
       ·intro h;obtain⟨g,g1,g2,g3,g4⟩:=h10 h;exact⟨g,g1,g2,fun h=>(g3 h).keep (Below.heap_alloc _ _ _ (g3 h).lt),fun h=>(g4 h).keep (Below.heap_alloc _ _ _ (g4 h).lt)⟩
       ·refine⟨?_,fun _=>rfl,hq12⟩
        intro _ h e
        obtain⟨g,g1,_,g3,g4⟩:=h10 h
        have hgl:g<w.heap.size:=by
         rcases Bool.eq_false_or_eq_true (l 12)with c|c
         ·exact(g4 c).lt
         ·exact(g3 c).lt
        have e':(Value.pointer (some ⟨w.heap.size,0,none⟩))=f 9:=e
        rw[g1]at e';cases e';omega
      ·replace ho:=Option.some.inj ho
       subst ho
       have hbn:Below wd.heap.size wd (w.alloc (.cells #[.int .i64 0,.int .u64 0] 100)):=hb.alloc hb.size _
       refine zAW.val (w':=w.alloc (.cells #[.int .i64 0,.int .u64 0] 100)) (v:=.pointer (some ⟨w.heap.size,0,none⟩)) rfl (by go_simp) ⟨hbn,h0,h1,h2,h3,h4,h5,h6,h7,h8,?_,?_,?_⟩
       ·intro h;obtain⟨g,g1,g2,g3,g4⟩:=h9 h;exact⟨g,g1,g2,fun h=>(g3 h).keep (Below.heap_alloc _ _ _ (g3 h).lt),fun h=>(g4 h).keep (Below.heap_alloc _ _ _ (g4 h).lt)⟩
       ·intro _;exact⟨w.heap.size,rfl,hb.size,fun _=>zBY.made0 w,fun h=>absurd (hq12 h) (by rw[hi];decide)⟩
       ·refine⟨?_,hq11,fun _=>rfl⟩
        intro h _ e
        obtain⟨g,g1,_,g3,g4⟩:=h9 h
        have hgl:g<w.heap.size:=by
         rcases Bool.eq_false_or_eq_true (l 11)with c|c
         ·exact(g4 c).lt
         ·exact(g3 c).lt
        have e':f 8=(Value.pointer (some ⟨w.heap.size,0,none⟩)):=e
        rw[g1]at e';cases e';omega
      ·replace ho:=Option.some.inj ho
       subst ho
       have l9:l 9=true:=hd {on:=9,ground:=.data} (by simp) (by kernel_rfl)
       have l10:l 10=true:=hd {on:=10,ground:=.phase} (by simp) (by kernel_rfl)
       have k7:=h7 (hd {on:=7,ground:=.data} (by simp) (by kernel_rfl))
       rw[k7]at e45
       obtain⟨g,g1,g2,g3,g4⟩:=h9 l9
       obtain⟨q,q1,q2,q3,q4⟩:=h10 l10
       rw[g1]at e8
       have hnq:q≠g:=by rintro rfl;exact hne l9 l10 (by rw[g1,q1])
       obtain⟨c0,c1,c2,c3,c4⟩:=(g3 hi).cells WP.zero
       have K:=zBQ w g (.int .i64 y1) (.int .u64 y2)
       have hbn:=K.below hb hb.size (fun k hk=>by show k≠g;omega)
       refine zAW.skip (w':=(w.setCell ⟨g,0,none⟩ (.int .i64 y1)).setCell ⟨g,1,none⟩ (.int .u64 y2)) rfl (by go_simp) ⟨hbn,h0,h1,h2,h3,h4,h5,h6,h7,h8,?_,?_,?_⟩
       ·intro _;exact⟨g,g1,g2,(fun h=>by cases h),fun _=>(g3 hi).set PY.out⟩
       ·intro _;exact⟨q,q1,q2,fun h=>(q3 h).keep (K.block _ (q3 h).lt hnq),fun h=>(q4 h).keep (K.block _ (q4 h).lt hnq)⟩
       ·exact⟨hne,fun _=>l9,hq12⟩
      ·replace ho:=Option.some.inj ho
       subst ho
       have l9:l 9=true:=hd {on:=9,ground:=.phase} (by simp) (by kernel_rfl)
       have l10:l 10=true:=hd {on:=10,ground:=.data} (by simp) (by kernel_rfl)
       have k8:=h8 (hd {on:=8,ground:=.data} (by simp) (by kernel_rfl))
       rw[k8]at e46
       obtain⟨g,g1,g2,g3,g4⟩:=h10 l10
       obtain⟨q,q1,q2,q3,q4⟩:=h9 l9
       rw[g1]at e9
       have hnq:q≠g:=by rintro rfl;exact hne l9 l10 (by rw[q1,g1])
       obtain⟨c0,c1,c2,c3,c4⟩:=(g3 hi).cells WP.zero
       have K:=zBQ w g (.int .i64 z1) (.int .u64 z2)
       have hbn:=K.below hb hb.size (fun k hk=>by show k≠g;omega)
       refine zAW.skip (w':=(w.setCell ⟨g,0,none⟩ (.int .i64 z1)).setCell ⟨g,1,none⟩ (.int .u64 z2)) rfl (by go_simp) ⟨hbn,h0,h1,h2,h3,h4,h5,h6,h7,h8,?_,?_,?_⟩
       ·intro _;exact⟨q,q1,q2,fun h=>(q3 h).keep (K.block _ (q3 h).lt hnq),fun h=>(q4 h).keep (K.block _ (q4 h).lt hnq)⟩
       ·intro _;exact⟨g,g1,g2,(fun h=>by cases h),fun _=>(g3 hi).set PZ.out⟩
       ·exact⟨hne,hq11,fun _=>l10⟩
      ·exact absurd ho (by simp)
     ·rintro l f wv hall ⟨hb,h0,h1,h2,h3,h4,h5,h6,h7,h8,h9,h10,hne,hq11,hq12⟩
      obtain⟨gy,g1,g2,_,g4⟩:=h9 (hall 9 (by decide))
      obtain⟨gr,k1,k2,_,k4⟩:=h10 (hall 10 (by decide))
      have HGY:=hid (g4 (hall 11 (by decide)))
      have HRZ:=hid (k4 (hall 12 (by decide)))
      have HBW:=hid (zAA HBD.out hb)
      clear h0 h1 h2 h3 h4 h5 h6 h7 h8 h9 h10 hne hq11 hq12 hall hb g2 k2 g4 k4
      rw[HA0.out]
      simp only[zDW,yDC,yCR,Act.put,yBW,yCX,yCA]
      rw[g1,k1]
      generalize f 38=z38,f 39=z39,f 40=z40,f 41=z41,f 42=z42,f 43=z43,f 44=z44,f 45=z45,f 46=z46
      clear g1 k1 hsz v6 v7 v1 HA0
      obtain⟨hab,hg,hb,hNa,hdb,hcop⟩:=HLOW.out
      have hd0:=HND.out.2.1
      have hdd:=HND.out.2.2
      have hrd:=HRD.out
      have hxb:0<=N%d*((k:Int)+1)∧N%d*((k:Int)+1)<=d*400:=⟨yBY (by omega) (by omega),Int.mul_le_mul (by omega) (by omega) (by omega) (by omega)⟩
      have hYb:0<=Y∧Y<=400:=by
       rw[HYE.out]
       refine⟨yEW hxb.1 (by omega),?_⟩
       exact Int.ediv_le_of_le_mul hd0 (by have h:=hxb.2;rw[yBV d]at h;exact h)
      have hZb:0<=Z∧Z<d:=by rw[HZE.out];exact⟨yDX _ (by omega),yDY _ hd0⟩
      have HSZ:=hid (show ∀X:World,Calls Tryz.prog 148 #[.agg #[.int .i64 z1,.int .u64 z2]] X fun e w'=>e=.returned (.int .i64 (cmpI Z 0))∧Below X.heap.size X w' from fun X=>by
       have:=zKF X Z (by omega)
       rw[PZ.out.val]at this;exact this)
      have hldv:=low_div hd0 hg hb hNa hdb hcop ((k:Int)+1)
      rw[<- HZE.out]at hldv
      by_cases hZ:Z=0
      ·have hdv:=hldv.1 hZ
       have hbe:b=(k:Int)+1:=by
        have h1:=yFV (by omega) hdv
        rcases yBK b ((k:Int)+1)with h|h
        ·exact absurd (yFI b) (HNDV.out b (by omega) (by omega))
        ·omega
       have hav:=low_val (n:=N) (by have:=HNE.out;omega) hd0 hg hNa hdb
       rw[hbe,<- HYE.out,<- HQ2.out]at hav
       have ha0:=low_nonneg (n:=N) (d:=d) (b:=b) (by have:=HNE.out;omega) hg hNa
       have hc0:cmpI Z 0=0:=by rw[hZ];rfl
       rw[hc0]at HSZ
       have hmul:0<=q2*((k:Int)+1)∧q2*((k:Int)+1)<=10000000000*400:=⟨yBY (by omega) (by omega),Int.mul_le_mul (by omega) (by omega) (by omega) (by omega)⟩
       have hy1:y1=0:=by have h:y1=Y/18446744073709551616:=PY.out.1;omega
       have hy2:y2=Y:=by have h:y2=Y%18446744073709551616:=PY.out.2;omega
       subst hy1
       subst hy2
       have HOF:=hid (show ∀X:World,Calls Tryz.prog 152 #[.int .i64 (q2*((k:Int)+1)+y2),.int .i64 ((k:Int)+1)] X fun e w'=>e=.returned (.agg #[.int .i64 a,.int .i64 b])∧Below X.heap.size X w' from fun X=>by
        have h:=of_c X a b (by omega) (by omega) (by omega)
        have e:ofF a b=(a,b):=by
         unfold ofF
         rw[hcop];simp;omega
        rw[e]at h
        rw[hav,<- hbe];exact h)
       have hyb2:0<=y2∧y2<=400:=hYb
       have HAB:=hid (And.intro ha0 (show a<=9000000000000 by omega))
       clear hab hg hb hNa hdb hcop hxb hYb hZb hldv hdv hbe hav ha0 hc0 hZ hd0 hdd hrd
       obtain⟨c0,c1,c2,c3,c4⟩:=HRZ.out.cells PZ.out
       go_wp2_with (go_at_call 148;refine(HSZ.out _).mono ?_;rintro e w5 ⟨rfl,hb5⟩;refine Stop.of ?_)
       refine Stop.go ?_
       have HB5:=hid (zAA HBW.out hb5)
       have hG5:=HGY.out.keep (hb5.block _ HGY.out.lt)
       clear hb5 c0 c1 c2 c3 c4
       obtain⟨c0,c1,c2,c3,c4⟩:=hG5.cells PY.out
       obtain⟨e0,e1,e2,e3,e4⟩:=(HQ3.out.keep (HB5.out.block _ HQ3.out.lt)).cells PQ.out
       clear hG5
       go_wp2_with (go_at_call 152;refine(HOF.out _).mono ?_;rintro e w6 ⟨rfl,hb6⟩;refine Stop.of ?_)
       refine Stop.go ?_
       have HB6:=hid (zAA HB5.out hb6)
       clear hb6 c0 c1 c2 c3 c4 e0 e1 e2 e3 e4
       obtain⟨p,hp⟩:=exq (w6.heap.size)
       obtain⟨w7,hw7⟩:=exq (w6.alloc (.cells #[.int .i64 a,.int .i64 b] 29))
       have P7:RatI w7 p (a,b):=by rw[hw7,hp];exact RatI.made w6 (a,b)
       have HP7:=hid P7
       have HB7:=hid (show Below w3.heap.size w3 w7 by rw[hw7];exact HB6.out.alloc HB6.out.size _)
       have HPS:=hid (show p≠s+1 by have:=HB6.out.size;have:=HSU.out;have:=HS3.out;omega)
       have HPB:=hid (show w3.heap.size<=p by rw[hp];exact HB6.out.size)
       have HW7:=hid hw7
       have HPE:=hid hp
       clear P7 hp hw7
       go_upto_region 13 with fail
       rw[<- HPE.out,<- HW7.out]
       obtain⟨b0,b1,b2,b3,_⟩:=(S3.out.keep (HB7.out.block _ S3.out.lt)).cells PN.out PD.out
       go_wp2_with (go_at_call 148;refine(HSG.out _).mono ?_;rintro e w8 ⟨rfl,hb8⟩;refine Stop.of ?_)
       refine Stop.go ?_
       have HP8:=hid (HP7.out.keep (hb8.block _ HP7.out.lt))
       have HB8:=hid (zAA HB7.out hb8)
       clear hb8 b0 b1 b2 b3
       obtain⟨p0,p1,p2,p3,p4⟩:=HP8.out.cells
       rcases HSG2.out with⟨hneg,hsn⟩|⟨hneg,hsn,_⟩
       ·have HNEG:=hid hneg
        have hA1:=HAB.out.1
        have hA2:=HAB.out.2
        clear hneg
        obtain⟨w9,hw9⟩:=exq (w8.setCell ⟨p,0,none⟩ (.int .i64 (-a)))
        have HP9:=hid (show RatI w9 p (-a,b)by
         have h:=zAT HP8.out 0 (.int .i64 (-a))
         rw[hw9];exact h)
        have HT9:=hid (show RatI w9 (s+1) (0,0)by
         have h1:=HT4.out.keep (HB8.out.block _ HT4.out.lt)
         rw[hw9];exact h1.keep ((Keep.set w8 p 0 _).block _ h1.lt (fun e=>HPS.out e.symm)))
        have HB9:=hid (show Below w.heap.size w w9 by
         rw[hw9]
         exact(Keep.set w8 p 0 _).below (zAA B3.out HB8.out) (by have:=B3.out.size;have:=HB8.out.size;omega) (fun k hk=>by have:=HPB.out;have:=B3.out.size;omega))
        have HW9:=hid hw9
        clear hw9
        go_upto_region 15 with fail
        rw[<- HW9.out]
        clear p0 p1 p2 p3 p4 hsn hA1 hA2
        refine zAG (fun j X=>wAll j=true->X.cell? ⟨p,0,none⟩=some (.int .i64 (-a))∧X.cell? ⟨p,1,none⟩=some (.int .i64 b)) (by kernel_rfl) ?_
        have hbe:Below w9.heap.size w9 w9.drew:=(Below.refl _ _).drew
        generalize w9.drew=we at hbe⊢
        have HTT:=hid (fun(X:World) (hX:Below w9.heap.size w9 X)=>show X.cell? ⟨p,0,none⟩=some (.int .i64 (-a))∧X.cell? ⟨p,1,none⟩=some (.int .i64 b)from by
         obtain⟨c0,c1,_⟩:=(HP9.out.keep (hX.block _ HP9.out.lt)).cells
         exact⟨c0,c1⟩)
        have HBE:=hid hbe
        clear hbe
        refine AnyT.tD (i:=0) (v:=.agg #[.int .i64 (-a),.int .i64 b]) rfl rfl (by rintro w' ⟨q0,q1⟩;go_simp) (HTT.out _ HBE.out) ?_;go_frame
        refine AnyT.tD (i:=1) (v:=.agg #[.int .i64 (-a),.int .i64 b]) rfl rfl (by rintro w' ⟨q0,q1⟩;go_simp) (HTT.out _ HBE.out) ?_;go_frame
        refine AnyT.nx (i:=2) rfl ?_
        go_wp2_with (go_at_call 147;refine(zMI _ (-a) b).mono ?_;rintro e w10 ⟨rfl,hb10⟩;refine Stop.of ?_)
        refine Stop.go ?_
        have HB10:=hid (zAA HBE.out hb10)
        clear hb10
        go_wp2
        refine⟨fun _=>HTT.out _ HB10.out,?_⟩
        have hT10:=HT9.out.keep (HB10.out.block _ HT9.out.lt)
        obtain⟨t0,t1,t2,t3,t4⟩:=hT10.cells
        have K10:=zBQ w10 (s+1) (.int .i64 (-a)) (.int .i64 b)
        have X1:=hid (RatI.set (p:=((-a),b)) hT10)
        have X2:=hid (K10.below (zAA HB9.out HB10.out) (by have:=HB9.out.size;have:=HB10.out.size;omega) (fun k hk=>by have:=HSV.out;show k≠s+1;omega))
        have X3:=hid (show RatI _ p ((-a),b)from(HP9.out.keep (HB10.out.block _ HP9.out.lt)).keep (K10.block _ (by have:=HP9.out.lt;have:=HB10.out.size;omega) HPS.out))
        clear hT10 K10
        refine AnyT.nx (i:=3) rfl ?_
        go_wp2
        clear t0 t1 t2 t3 t4
        generalize (w10.setCell ⟨s+1,0,none⟩ (.int .i64 (-a))).setCell ⟨s+1,1,none⟩ (.int .i64 b)=WF at X1 X2 X3⊢
        refine⟨fun _=>by obtain⟨c0,c1,_⟩:=X3.out.cells;exact⟨c0,c1⟩,?_⟩
        refine AnyT.nx (i:=4) rfl ?_
        go_wp2
        refine⟨fun _=>by obtain⟨c0,c1,_⟩:=X3.out.cells;exact⟨c0,c1⟩,?_⟩
        refine AnyT.done (by kernel_rfl) ?_ _
        go_wp2
        obtain⟨t0,t1,t2,t3,t4⟩:=X1.out.cells
        refine bodyPost_ret (v:=.tuple #[.agg #[.int .i64 (-a),.int .i64 b],.bool (zAL ((-a),b))]) ?_ rfl ⟨⟨((-a),b),by rw[HVAL.out.1,zPC];rfl,fun _=>by rw[HVAL.out.2,if_pos HNEG.out]⟩,X2.out⟩
        simp[results,Tryz.results83,go_sem,t0,t1,t2,t3,t4]
       ·have HNEG:=hid hneg
        clear hneg
        obtain⟨w9,hw9⟩:=exq (w8)
        have HP9:=hid (show RatI w9 p (a,b)by rw[hw9];exact HP8.out)
        have HT9:=hid (show RatI w9 (s+1) (0,0)by rw[hw9];exact HT4.out.keep (HB8.out.block _ HT4.out.lt))
        have HB9:=hid (show Below w.heap.size w w9 by rw[hw9];exact zAA B3.out HB8.out)
        have HW9:=hid hw9
        clear hw9
        go_upto_region 15 with fail
        rw[<- HW9.out]
        clear p0 p1 p2 p3 p4 hsn
        refine zAG (fun j X=>wAll j=true->X.cell? ⟨p,0,none⟩=some (.int .i64 (a))∧X.cell? ⟨p,1,none⟩=some (.int .i64 b)) (by kernel_rfl) ?_
        have hbe:Below w9.heap.size w9 w9.drew:=(Below.refl _ _).drew
        generalize w9.drew=we at hbe⊢
        have HTT:=hid (fun(X:World) (hX:Below w9.heap.size w9 X)=>show X.cell? ⟨p,0,none⟩=some (.int .i64 (a))∧X.cell? ⟨p,1,none⟩=some (.int .i64 b)from by
         obtain⟨c0,c1,_⟩:=(HP9.out.keep (hX.block _ HP9.out.lt)).cells
         exact⟨c0,c1⟩)
        have HBE:=hid hbe
        clear hbe
        refine AnyT.tD (i:=0) (v:=.agg #[.int .i64 (a),.int .i64 b]) rfl rfl (by rintro w' ⟨q0,q1⟩;go_simp) (HTT.out _ HBE.out) ?_;go_frame
        refine AnyT.tD (i:=1) (v:=.agg #[.int .i64 (a),.int .i64 b]) rfl rfl (by rintro w' ⟨q0,q1⟩;go_simp) (HTT.out _ HBE.out) ?_;go_frame
        refine AnyT.nx (i:=2) rfl ?_
        go_wp2_with (go_at_call 147;refine(zMI _ (a) b).mono ?_;rintro e w10 ⟨rfl,hb10⟩;refine Stop.of ?_)
        refine Stop.go ?_
        have HB10:=hid (zAA HBE.out hb10)
        clear hb10
        go_wp2
        refine⟨fun _=>HTT.out _ HB10.out,?_⟩
        have hT10:=HT9.out.keep (HB10.out.block _ HT9.out.lt)
        obtain⟨t0,t1,t2,t3,t4⟩:=hT10.cells
        have K10:=zBQ w10 (s+1) (.int .i64 (a)) (.int .i64 b)
        have X1:=hid (RatI.set (p:=((a),b)) hT10)
        have X2:=hid (K10.below (zAA HB9.out HB10.out) (by have:=HB9.out.size;have:=HB10.out.size;omega) (fun k hk=>by have:=HSV.out;show k≠s+1;omega))
        have X3:=hid (show RatI _ p ((a),b)from(HP9.out.keep (HB10.out.block _ HP9.out.lt)).keep (K10.block _ (by have:=HP9.out.lt;have:=HB10.out.size;omega) HPS.out))
        clear hT10 K10
        refine AnyT.nx (i:=3) rfl ?_
        go_wp2
        clear t0 t1 t2 t3 t4
        generalize (w10.setCell ⟨s+1,0,none⟩ (.int .i64 (a))).setCell ⟨s+1,1,none⟩ (.int .i64 b)=WF at X1 X2 X3⊢
        refine⟨fun _=>by obtain⟨c0,c1,_⟩:=X3.out.cells;exact⟨c0,c1⟩,?_⟩
        refine AnyT.nx (i:=4) rfl ?_
        go_wp2
        refine⟨fun _=>by obtain⟨c0,c1,_⟩:=X3.out.cells;exact⟨c0,c1⟩,?_⟩
        refine AnyT.done (by kernel_rfl) ?_ _
        go_wp2
        obtain⟨t0,t1,t2,t3,t4⟩:=X1.out.cells
        refine bodyPost_ret (v:=.tuple #[.agg #[.int .i64 (a),.int .i64 b],.bool (zAL ((a),b))]) ?_ rfl ⟨⟨((a),b),by rw[HVAL.out.1];rfl,fun _=>by rw[HVAL.out.2,if_neg (show ¬n<0 by have:=HNEG.out;omega)]⟩,X2.out⟩
        simp[results,Tryz.results83,go_sem,t0,t1,t2,t3,t4]
      ·have hc0:(cmpI Z 0 !=0)=true:=by unfold cmpI;split<;>(try split)<;>simp<;>omega
       have HND2:=hid (show ∀j:Int,1<=j->j<=((k+1:Nat):Int)->¬b∣j from fun j h1 h2=>by
        rcases yBK (k:Int) j with h|h
        ·have:j=(k:Int)+1:=by omega
         rw[this];exact fun h=>hZ (hldv.2 h)
        ·exact HNDV.out j h1 h)
       obtain⟨C,hC⟩:=exq (cmpI Z 0)
       rw[<- hC]at HSZ hc0
       clear hab hg hb hNa hdb hcop hxb hYb hZb hldv hZ hC hd0 hdd hrd
       obtain⟨c0,c1,c2,c3,c4⟩:=HRZ.out.cells PZ.out
       go_wp2_with (go_at_call 148;refine(HSZ.out _).mono ?_;rintro e w5 ⟨rfl,hb5⟩;refine Stop.of ?_)
       refine Stop.go ?_
       have HB5:=hid (zAA HBW.out hb5)
       clear hb5 c0 c1 c2 c3 c4
       go_wp2
       refine⟨⟨k+1,by omega,by go_num,HND2.out,HB5.out⟩,by simp[intOf];omega⟩
     ·intro l f hl
      refine⟨Below.refl _ _,?_⟩
      refine⟨fun h=>?_,fun h=>?_,fun h=>?_,fun h=>?_,fun h=>?_,fun h=>?_,fun h=>?_,fun h=>?_,fun h=>?_,fun h=>?_,fun h=>?_,fun h=>?_,fun h=>?_,fun h=>?_⟩<;>(rw[hl _ (by decide)]at h;cases h)
    ·have hk4:k=400:=by omega
     subst hk4
     have HNO:=hid (show zAL (zBF n d)=false by
      rw[HVAL.out.1]
      cases hv:zAL (a,b)with
      |false=>rfl
      |true=>
       have h:=zAR.1 hv
       exact absurd (yFI b) (hnd b (by have:=h.1;simpa using this) (by have:=h.2.1;simpa using this)))
     have HBK:=hid hbk
     have HTB:=hid (HT4.out.keep (hbk.block _ HT4.out.lt))
     obtain⟨t0,t1,t2,t3,t4⟩:=HTB.out.cells
     have K:=zBQ wr (s+1) (.int .i64 0) (.int .i64 0)
     have X1:=hid (RatI.set (p:=(0,0)) HTB.out)
     have X2:=hid (K.below (zAA B3.out hbk) (by have:=B3.out.size;have:=hbk.size;omega) (fun k hk=>by have:=HSV.out;show k≠s+1;omega))
     clear K hnd hbk
     go_wp2
     clear t0 t1 t2 t3 t4
     generalize (wr.setCell ⟨s+1,0,none⟩ (.int .i64 0)).setCell ⟨s+1,1,none⟩ (.int .i64 0)=WF at X1 X2⊢
     obtain⟨t0,t1,t2,t3,t4⟩:=X1.out.cells
     refine bodyPost_ret (v:=.tuple #[.agg #[.int .i64 0,.int .i64 0],.bool false]) ?_ rfl ⟨⟨(0,0),by rw[HNO.out];rfl,fun h=>by rw[HNO.out]at h;cases h⟩,X2.out⟩
     simp[results,Tryz.results83,go_sem,t0,t1,t2,t3,t4]
end
end Go.Proofs.YtlffndehhhpgjaaGreat
