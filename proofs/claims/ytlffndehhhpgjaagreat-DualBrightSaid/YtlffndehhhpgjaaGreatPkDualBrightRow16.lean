/- Walks and plain laws for DualBrightRow, part 16. -/
import Derived.ChangeOld
import Derived.Deep.Slices
import Derived.Lib.SmallJoins
import Derived.Test.YtlffndehhhpgjaaGreatChecked
import Derived.Test.YtlffndehhhpgjaaGreatRows
import Derived.JoinedOf
import Derived.ProofKit
import Derived.Test.YtlffndehhhpgjaaGreatPkDualBrightRow15
namespace Go.Proofs.YtlffndehhhpgjaaGreat
set_option linter.unusedVariables false
set_option linter.unusedSimpArgs false
set_option maxRecDepth 100000
set_option maxHeartbeats 4000000
open _root_.List renaming getElem?_eq_getElem → yAA, getElem_mem → yAH, all_eq_true → yAT, length_take → yAU, mem_map → yBJ, mem_of_getElem? → yBM, mem_range → yCH, mem_of_mem_take → yEP, getElem_map → yGG, getElem_range → yGS
open _root_.Nat renaming le_refl → yAC, zero_le → yAK, lt_or_ge → yAP
open _root_.Int renaming mul_le_mul_of_nonneg_right → yAX, mul_pos → yBN, lt_trichotomy → yBS, mul_comm → yBV, emod_nonneg → yDX, emod_lt_of_pos → yDY, neg_mul → yGK, mul_neg → yGL
open _root_.Array renaming getElem?_eq_some_iff → yAB, getElem?_eq_getElem → yDN, getElem_modify_self → yGE
section
open Go.RowKit
theorem cmpI_sub{V U V' U':Int}(h:V-U=V'-U'):cmpI V U=cmpI V' U':=by
 unfold cmpI
 by_cases h1:V<U
 ·rw[if_pos h1,if_pos (show V'<U' by omega)]
 ·rw[if_neg h1,if_neg (show ¬V'<U' by omega)]
  by_cases h2:V=U
  ·rw[if_pos h2,if_pos (show V'=U' by omega)]
  ·rw[if_neg h2,if_neg (show ¬V'=U' by omega)]
theorem cmp_lt{an A bn B:Int}(hA:1<=A)(hB:1<=B)(h:an/A<bn/B):an*B<bn*A:=by
 have e0:an<(an/A+1)*A:=Int.lt_ediv_add_one_mul_self an (by omega)
 have e1:(an/A+1)*A<=bn/B*A:=yAX (by omega) (by omega)
 have e2:an*B<bn/B*A*B:=Int.mul_lt_mul_of_pos_right (by omega) (by omega)
 have e3:bn/B*B*A<=bn*A:=yAX (Int.ediv_mul_le bn (by omega)) (by omega)
 have e4:bn/B*A*B=bn/B*B*A:=by grind
 omega
theorem zIO(d:Int):1<=dF d:=by unfold dF;split<;>omega
theorem cmpR_lt{an ad bn bd:Int}(h:an/dF ad<bn/dF bd):cmpR an ad bn bd= -1:=by
 unfold cmpR cmpI
 rw[if_pos (cmp_lt (zIO ad) (zIO bd) h)]
theorem cmpR_gt{an ad bn bd:Int}(h:bn/dF bd<an/dF ad):cmpR an ad bn bd=1:=by
 have:=cmp_lt (zIO bd) (zIO ad) h
 unfold cmpR cmpI
 rw[if_neg (by omega),if_neg (by omega)]
theorem cmpR_eq{an ad bn bd:Int}(h:an/dF ad=bn/dF bd):cmpR an ad bn bd=cmpI (an%dF ad*dF bd) (bn%dF bd*dF ad):=by
 unfold cmpR
 refine cmpI_sub ?_
 have e1:=Int.mul_ediv_add_emod an (dF ad)
 have e2:=Int.mul_ediv_add_emod bn (dF bd)
 rw[<- h]at e2
 generalize an/dF ad=p at e1 e2
 generalize an%dF ad=x at e1⊢
 generalize bn%dF bd=y at e2⊢
 generalize dF ad=A at e1 e2⊢
 generalize dF bd=B at e1 e2⊢
 subst e1
 subst e2
 grind
theorem cmpR_rec{an ad bn bd:Int}(h:an/dF ad=bn/dF bd)(hx:an%dF ad≠0)(hy:bn%dF bd≠0):cmpR an ad bn bd=cmpR (dF bd) (bn%dF bd) (dF ad) (an%dF ad):=by
 rw[cmpR_eq h]
 have h1:=yDX an (show dF ad≠0 by have:=zIO ad;omega)
 have h2:=yDX bn (show dF bd≠0 by have:=zIO bd;omega)
 unfold cmpR
 rw[show dF (an%dF ad)=an%dF ad by unfold dF;rw[if_neg];unfold dF at hx h1;omega,show dF (bn%dF bd)=bn%dF bd by unfold dF;rw[if_neg];unfold dF at hy h2;omega,yBV (dF bd),yBV (dF ad)]
theorem zPM:∀(s:Nat) (w:World) (an ad bn bd:Int),F64 an->F64 ad->F64 bn->F64 bd->(dF ad+dF bd).toNat<=s->
 Calls Tryz.prog 31 #[.agg #[.int .i64 an,.int .i64 ad],.agg #[.int .i64 bn,.int .i64 bd]] w fun e w'=>e=.returned (.int .i64 (cmpR an ad bn bd))∧Below w.heap.size w w':=by
 intro s
 induction s with
 |zero=>
  intro w an ad bn bd h1 h2 h3 h4 hs
  have hA1:=zIO ad
  have hB1:=zIO bd
  omega
 |succ s ih=>
  intro w an ad bn bd h1 h2 h3 h4 hs
  have hA1:=zIO ad
  have hB1:=zIO bd
  have hAd:dF ad=if ad<1 then 1 else ad:=rfl
  have hBd:dF bd=if bd<1 then 1 else bd:=rfl
  have fA:1<=dF ad∧dF ad<=9223372036854775807:=by unfold dF;unfold F64 at h2;split<;>omega
  have fB:1<=dF bd∧dF bd<=9223372036854775807:=by unfold dF;unfold F64 at h4;split<;>omega
  have HD1:=hid (fun X=>down_c X an (dF ad) h1 fA)
  have HD2:=hid (fun X=>down_c X bn (dF bd) h3 fB)
  have kx0:=yDX an (show dF ad≠0 by omega)
  have ky0:=yDX bn (show dF bd≠0 by omega)
  have kx1:=yDY an (show 0<dF ad by omega)
  have ky1:=yDY bn (show 0<dF bd by omega)
  have HLT:=hid (fun h=>cmpR_lt (an:=an) (ad:=ad) (bn:=bn) (bd:=bd) h)
  have HGT:=hid (fun h=>cmpR_gt (an:=an) (ad:=ad) (bn:=bn) (bd:=bd) h)
  have HEQ:=hid (fun h=>cmpR_eq (an:=an) (ad:=ad) (bn:=bn) (bd:=bd) h)
  have HRE:=hid (fun h hx hy=>cmpR_rec (an:=an) (ad:=ad) (bn:=bn) (bd:=bd) h hx hy)
  obtain⟨C,hC⟩:=exq (cmpR an ad bn bd)
  rw[<- hC]at HLT HGT HEQ HRE⊢
  clear hC
  have HMA:=hid (show(if ad<1 then(1:Int)else ad)=dF ad from rfl)
  have HMB:=hid (show(if bd<1 then(1:Int)else bd)=dF bd from rfl)
  have HBL:=hid (show Below w.heap.size w ((w.alloc (.cells #[.int .i64 an,.int .i64 ad] 29)).alloc (.cells #[.int .i64 bn,.int .i64 bd] 29))from((Below.refl _ _).alloc (yAC _) _).alloc (by simp) _)
  clear HMA HMB
  by_cases c1:ad<1<;>by_cases c2:bd<1
  ·have eA:dF ad=1:=by unfold dF;rw[if_pos c1]
   have eB:dF bd=1:=by unfold dF;rw[if_pos c2]
   rw[eA]at HD1 HLT HGT HEQ HRE kx0 kx1 fA hs
   rw[eB]at HD2 HLT HGT HEQ HRE ky0 ky1 fB hs
   obtain⟨p,hp⟩:=exq (an/1)
   obtain⟨q,hq⟩:=exq (bn/1)
   obtain⟨x,hx⟩:=exq (an%1)
   obtain⟨y,hy⟩:=exq (bn%1)
   rw[<- hp,<- hx]at HD1
   rw[<- hq,<- hy]at HD2
   rw[<- hp,<- hq]at HLT HGT HEQ HRE
   rw[<- hx,<- hy]at HEQ HRE
   rw[<- hx]at kx0 kx1
   rw[<- hy]at ky0 ky1
   have HIH:=hid (fun(X:World) (hx0:x≠0) (hy0:y≠0)=>ih X 1 y 1 x (by unfold F64;omega) (by unfold F64;omega) (by unfold F64;omega) (by unfold F64;omega) (by unfold dF;rw[if_neg (by omega),if_neg (by omega)];omega))
   have hm:(p<q∧C= -1)∨(q<p∧C=1)∨(p=q∧C=cmpI (x*1) (y*1)∧(x≠0->y≠0->C=cmpR 1 y 1 x)):=by
    rcases yBS p q with h|h|h
    ·exact .inl ⟨h,HLT.out h⟩
    ·exact .inr (.inr ⟨h,HEQ.out h,HRE.out h⟩)
    ·exact .inr (.inl ⟨h,HGT.out h⟩)
   have hc0:x=0->y=0->cmpI (x*1) (y*1)=0:=fun e1 e2=>by subst e1;subst e2;unfold cmpI;simp
   have hc1:x=0->y≠0->cmpI (x*1) (y*1)= -1:=fun e1 e2=>by
    subst e1
    have:0<y*1:=yBN (by omega) (by omega)
    unfold cmpI;rw[if_pos (by omega)]
   have hc2:x≠0->y=0->cmpI (x*1) (y*1)=1:=fun e1 e2=>by
    subst e2
    have:0<x*1:=yBN (by omega) (by omega)
    unfold cmpI;rw[if_neg (by omega),if_neg (by omega)]
   have HM:=hid hm
   have HC0:=hid hc0
   have HC1:=hid hc1
   have HC2:=hid hc2
   clear eA eB hp hq hx hy hAd hBd hm hc0 hc1 hc2 HLT HGT HEQ HRE ih
   go_enter Tryz.func31,Tryz.ntmps31
   go_wp2_with (go_at_call 92;refine(HD1.out _).mono ?_;rintro e w1 ⟨rfl,k1,rfl⟩;refine Stop.of ?_)
   refine Stop.go ?_
   go_wp2_with (go_at_call 92;refine(HD2.out _).mono ?_;rintro e w2 ⟨rfl,k2,rfl⟩;refine Stop.of ?_)
   refine Stop.go ?_
   clear HD1 HD2
   rcases HM.out with⟨hl,rfl⟩|⟨hl,rfl⟩|⟨rfl,hC,hR⟩
   ·have hpb:(p !=q)=true:=by simp;omega
    clear HM
    go_wp2
    go_ret
    exact⟨rfl,zAI HBL.out _⟩
   ·have hpb:(p !=q)=true:=by simp;omega
    have hnl:¬p<q:=by omega
    clear HM
    go_wp2
    go_ret
    exact⟨rfl,zAI HBL.out _⟩
   ·have hpb:(p !=p)=false:=by simp
    by_cases hx0:x=0
    ·by_cases hy0:y=0
     ·obtain rfl:C=0:=hC.trans (HC0.out hx0 hy0)
      subst hx0
      subst hy0
      clear HM HC0 HC1 HC2 HIH hR hC
      go_wp2
      go_ret
      exact⟨rfl,zAI HBL.out _⟩
     ·obtain rfl:C= -1:=hC.trans (HC1.out hx0 hy0)
      have hyb:(y==0)=false:=by simpa using hy0
      subst hx0
      clear HM HC0 HC1 HC2 HIH hR hC
      go_wp2
      go_ret
      exact⟨rfl,zAI HBL.out _⟩
    ·exfalso;omega
  ·have eA:dF ad=1:=by unfold dF;rw[if_pos c1]
   have eB:dF bd=bd:=by unfold dF;rw[if_neg c2]
   rw[eA]at HD1 HLT HGT HEQ HRE kx0 kx1 fA hs
   rw[eB]at HD2 HLT HGT HEQ HRE ky0 ky1 fB hs
   obtain⟨p,hp⟩:=exq (an/1)
   obtain⟨q,hq⟩:=exq (bn/bd)
   obtain⟨x,hx⟩:=exq (an%1)
   obtain⟨y,hy⟩:=exq (bn%bd)
   rw[<- hp,<- hx]at HD1
   rw[<- hq,<- hy]at HD2
   rw[<- hp,<- hq]at HLT HGT HEQ HRE
   rw[<- hx,<- hy]at HEQ HRE
   rw[<- hx]at kx0 kx1
   rw[<- hy]at ky0 ky1
   have HIH:=hid (fun(X:World) (hx0:x≠0) (hy0:y≠0)=>ih X bd y 1 x (by unfold F64;omega) (by unfold F64;omega) (by unfold F64;omega) (by unfold F64;omega) (by unfold dF;rw[if_neg (by omega),if_neg (by omega)];omega))
   have hm:(p<q∧C= -1)∨(q<p∧C=1)∨(p=q∧C=cmpI (x*bd) (y*1)∧(x≠0->y≠0->C=cmpR bd y 1 x)):=by
    rcases yBS p q with h|h|h
    ·exact .inl ⟨h,HLT.out h⟩
    ·exact .inr (.inr ⟨h,HEQ.out h,HRE.out h⟩)
    ·exact .inr (.inl ⟨h,HGT.out h⟩)
   have hc0:x=0->y=0->cmpI (x*bd) (y*1)=0:=fun e1 e2=>by subst e1;subst e2;unfold cmpI;simp
   have hc1:x=0->y≠0->cmpI (x*bd) (y*1)= -1:=fun e1 e2=>by
    subst e1
    have:0<y*1:=yBN (by omega) (by omega)
    unfold cmpI;rw[if_pos (by omega)]
   have hc2:x≠0->y=0->cmpI (x*bd) (y*1)=1:=fun e1 e2=>by
    subst e2
    have:0<x*bd:=yBN (by omega) (by omega)
    unfold cmpI;rw[if_neg (by omega),if_neg (by omega)]
   have HM:=hid hm
   have HC0:=hid hc0
   have HC1:=hid hc1
   have HC2:=hid hc2
   clear eA eB hp hq hx hy hAd hBd hm hc0 hc1 hc2 HLT HGT HEQ HRE ih
   go_enter Tryz.func31,Tryz.ntmps31
   go_wp2_with (go_at_call 92;refine(HD1.out _).mono ?_;rintro e w1 ⟨rfl,k1,rfl⟩;refine Stop.of ?_)
   refine Stop.go ?_
   go_wp2_with (go_at_call 92;refine(HD2.out _).mono ?_;rintro e w2 ⟨rfl,k2,rfl⟩;refine Stop.of ?_)
   refine Stop.go ?_
   clear HD1 HD2
   rcases HM.out with⟨hl,rfl⟩|⟨hl,rfl⟩|⟨rfl,hC,hR⟩
   ·have hpb:(p !=q)=true:=by simp;omega
    clear HM
    go_wp2
    go_ret
    exact⟨rfl,zAI HBL.out _⟩
   ·have hpb:(p !=q)=true:=by simp;omega
    have hnl:¬p<q:=by omega
    clear HM
    go_wp2
    go_ret
    exact⟨rfl,zAI HBL.out _⟩
   ·have hpb:(p !=p)=false:=by simp
    by_cases hx0:x=0
    ·by_cases hy0:y=0
     ·obtain rfl:C=0:=hC.trans (HC0.out hx0 hy0)
      subst hx0
      subst hy0
      clear HM HC0 HC1 HC2 HIH hR hC
      go_wp2
      go_ret
      exact⟨rfl,zAI HBL.out _⟩
     ·obtain rfl:C= -1:=hC.trans (HC1.out hx0 hy0)
      have hyb:(y==0)=false:=by simpa using hy0
      subst hx0
      clear HM HC0 HC1 HC2 HIH hR hC
      go_wp2
      go_ret
      exact⟨rfl,zAI HBL.out _⟩
    ·exfalso;omega
  ·have eA:dF ad=ad:=by unfold dF;rw[if_neg c1]
   have eB:dF bd=1:=by unfold dF;rw[if_pos c2]
   rw[eA]at HD1 HLT HGT HEQ HRE kx0 kx1 fA hs
   rw[eB]at HD2 HLT HGT HEQ HRE ky0 ky1 fB hs
   obtain⟨p,hp⟩:=exq (an/ad)
   obtain⟨q,hq⟩:=exq (bn/1)
   obtain⟨x,hx⟩:=exq (an%ad)
   obtain⟨y,hy⟩:=exq (bn%1)
   rw[<- hp,<- hx]at HD1
   rw[<- hq,<- hy]at HD2
   rw[<- hp,<- hq]at HLT HGT HEQ HRE
   rw[<- hx,<- hy]at HEQ HRE
   rw[<- hx]at kx0 kx1
   rw[<- hy]at ky0 ky1
   have HIH:=hid (fun(X:World) (hx0:x≠0) (hy0:y≠0)=>ih X 1 y ad x (by unfold F64;omega) (by unfold F64;omega) (by unfold F64;omega) (by unfold F64;omega) (by unfold dF;rw[if_neg (by omega),if_neg (by omega)];omega))
   have hm:(p<q∧C= -1)∨(q<p∧C=1)∨(p=q∧C=cmpI (x*1) (y*ad)∧(x≠0->y≠0->C=cmpR 1 y ad x)):=by
    rcases yBS p q with h|h|h
    ·exact .inl ⟨h,HLT.out h⟩
    ·exact .inr (.inr ⟨h,HEQ.out h,HRE.out h⟩)
    ·exact .inr (.inl ⟨h,HGT.out h⟩)
   have hc0:x=0->y=0->cmpI (x*1) (y*ad)=0:=fun e1 e2=>by subst e1;subst e2;unfold cmpI;simp
   have hc1:x=0->y≠0->cmpI (x*1) (y*ad)= -1:=fun e1 e2=>by
    subst e1
    have:0<y*ad:=yBN (by omega) (by omega)
    unfold cmpI;rw[if_pos (by omega)]
   have hc2:x≠0->y=0->cmpI (x*1) (y*ad)=1:=fun e1 e2=>by
    subst e2
    have:0<x*1:=yBN (by omega) (by omega)
    unfold cmpI;rw[if_neg (by omega),if_neg (by omega)]
   have HM:=hid hm
   have HC0:=hid hc0
   have HC1:=hid hc1
   have HC2:=hid hc2
   clear eA eB hp hq hx hy hAd hBd hm hc0 hc1 hc2 HLT HGT HEQ HRE ih
   go_enter Tryz.func31,Tryz.ntmps31
   go_wp2_with (go_at_call 92;refine(HD1.out _).mono ?_;rintro e w1 ⟨rfl,k1,rfl⟩;refine Stop.of ?_)
   refine Stop.go ?_
   go_wp2_with (go_at_call 92;refine(HD2.out _).mono ?_;rintro e w2 ⟨rfl,k2,rfl⟩;refine Stop.of ?_)
   refine Stop.go ?_
   clear HD1 HD2
   rcases HM.out with⟨hl,rfl⟩|⟨hl,rfl⟩|⟨rfl,hC,hR⟩
   ·have hpb:(p !=q)=true:=by simp;omega
    clear HM
    go_wp2
    go_ret
    exact⟨rfl,zAI HBL.out _⟩
   ·have hpb:(p !=q)=true:=by simp;omega
    have hnl:¬p<q:=by omega
    clear HM
    go_wp2
    go_ret
    exact⟨rfl,zAI HBL.out _⟩
   ·have hpb:(p !=p)=false:=by simp
    by_cases hx0:x=0
    ·by_cases hy0:y=0
     ·obtain rfl:C=0:=hC.trans (HC0.out hx0 hy0)
      subst hx0
      subst hy0
      clear HM HC0 HC1 HC2 HIH hR hC
      go_wp2
      go_ret
      exact⟨rfl,zAI HBL.out _⟩
     ·obtain rfl:C= -1:=hC.trans (HC1.out hx0 hy0)
      have hyb:(y==0)=false:=by simpa using hy0
      subst hx0
      clear HM HC0 HC1 HC2 HIH hR hC
      go_wp2
      go_ret
      exact⟨rfl,zAI HBL.out _⟩
    ·have hxb:(x==0)=false:=by simpa using hx0
     by_cases hy0:y=0
     ·obtain rfl:C=1:=hC.trans (HC2.out hx0 hy0)
      subst hy0
      clear HM HC0 HC1 HC2 HIH hR hC
      go_wp2
      go_ret
      exact⟨rfl,zAI HBL.out _⟩
     ·exfalso;omega
  ·have eA:dF ad=ad:=by unfold dF;rw[if_neg c1]
   have eB:dF bd=bd:=by unfold dF;rw[if_neg c2]
   rw[eA]at HD1 HLT HGT HEQ HRE kx0 kx1 fA hs
   rw[eB]at HD2 HLT HGT HEQ HRE ky0 ky1 fB hs
   obtain⟨p,hp⟩:=exq (an/ad)
   obtain⟨q,hq⟩:=exq (bn/bd)
   obtain⟨x,hx⟩:=exq (an%ad)
   obtain⟨y,hy⟩:=exq (bn%bd)
   rw[<- hp,<- hx]at HD1
   rw[<- hq,<- hy]at HD2
   rw[<- hp,<- hq]at HLT HGT HEQ HRE
   rw[<- hx,<- hy]at HEQ HRE
   rw[<- hx]at kx0 kx1
   rw[<- hy]at ky0 ky1
   have HIH:=hid (fun(X:World) (hx0:x≠0) (hy0:y≠0)=>ih X bd y ad x (by unfold F64;omega) (by unfold F64;omega) (by unfold F64;omega) (by unfold F64;omega) (by unfold dF;rw[if_neg (by omega),if_neg (by omega)];omega))
   have hm:(p<q∧C= -1)∨(q<p∧C=1)∨(p=q∧C=cmpI (x*bd) (y*ad)∧(x≠0->y≠0->C=cmpR bd y ad x)):=by
    rcases yBS p q with h|h|h
    ·exact .inl ⟨h,HLT.out h⟩
    ·exact .inr (.inr ⟨h,HEQ.out h,HRE.out h⟩)
    ·exact .inr (.inl ⟨h,HGT.out h⟩)
   have hc0:x=0->y=0->cmpI (x*bd) (y*ad)=0:=fun e1 e2=>by subst e1;subst e2;unfold cmpI;simp
   have hc1:x=0->y≠0->cmpI (x*bd) (y*ad)= -1:=fun e1 e2=>by
    subst e1
    have:0<y*ad:=yBN (by omega) (by omega)
    unfold cmpI;rw[if_pos (by omega)]
   have hc2:x≠0->y=0->cmpI (x*bd) (y*ad)=1:=fun e1 e2=>by
    subst e2
    have:0<x*bd:=yBN (by omega) (by omega)
    unfold cmpI;rw[if_neg (by omega),if_neg (by omega)]
   have HM:=hid hm
   have HC0:=hid hc0
   have HC1:=hid hc1
   have HC2:=hid hc2
   clear eA eB hp hq hx hy hAd hBd hm hc0 hc1 hc2 HLT HGT HEQ HRE ih
   go_enter Tryz.func31,Tryz.ntmps31
   go_wp2_with (go_at_call 92;refine(HD1.out _).mono ?_;rintro e w1 ⟨rfl,k1,rfl⟩;refine Stop.of ?_)
   refine Stop.go ?_
   go_wp2_with (go_at_call 92;refine(HD2.out _).mono ?_;rintro e w2 ⟨rfl,k2,rfl⟩;refine Stop.of ?_)
   refine Stop.go ?_
   clear HD1 HD2
   rcases HM.out with⟨hl,rfl⟩|⟨hl,rfl⟩|⟨rfl,hC,hR⟩
   ·have hpb:(p !=q)=true:=by simp;omega
    clear HM
    go_wp2
    go_ret
    exact⟨rfl,zAI HBL.out _⟩
   ·have hpb:(p !=q)=true:=by simp;omega
    have hnl:¬p<q:=by omega
    clear HM
    go_wp2
    go_ret
    exact⟨rfl,zAI HBL.out _⟩
   ·have hpb:(p !=p)=false:=by simp
    by_cases hx0:x=0
    ·by_cases hy0:y=0
     ·obtain rfl:C=0:=hC.trans (HC0.out hx0 hy0)
      subst hx0
      subst hy0
      clear HM HC0 HC1 HC2 HIH hR hC
      go_wp2
      go_ret
      exact⟨rfl,zAI HBL.out _⟩
     ·obtain rfl:C= -1:=hC.trans (HC1.out hx0 hy0)
      have hyb:(y==0)=false:=by simpa using hy0
      subst hx0
      clear HM HC0 HC1 HC2 HIH hR hC
      go_wp2
      go_ret
      exact⟨rfl,zAI HBL.out _⟩
    ·have hxb:(x==0)=false:=by simpa using hx0
     by_cases hy0:y=0
     ·obtain rfl:C=1:=hC.trans (HC2.out hx0 hy0)
      subst hy0
      clear HM HC0 HC1 HC2 HIH hR hC
      go_wp2
      go_ret
      exact⟨rfl,zAI HBL.out _⟩
     ·have hyb:(y==0)=false:=by simpa using hy0
      have HI2:=hid (fun X=>HIH.out X hx0 hy0)
      rw[<- hR hx0 hy0]at HI2
      clear HM HC0 HC1 HC2 HIH hR hC
      go_wp2_with (go_at_call 31;refine(HI2.out _).mono ?_;rintro e w3 ⟨rfl,hb3⟩)
      go_ret
      exact⟨rfl,zAA (zAI HBL.out _) hb3⟩
end
section
open Go.RowKit
theorem exact_c(w:World)(N D:Int)(hN: -4611686018427387904<=N∧N<=4611686018427387904)(hD:0<=D∧D<=4611686018427387904):
 Calls Tryz.prog 22 #[.agg #[.int .i64 N,.int .i64 D]] w fun e w'=>∃x,e=.returned x∧RatQ w' x 3 (decide (N<0)) (N.natAbs:Nat) D∧Below w.heap.size w w':=by
 obtain⟨s0,hs⟩:=exq (w.heap.size)
 obtain⟨wa,hwa⟩:=exq ((w.alloc (.cells #[.int .i64 N,.int .i64 D] 29)).alloc (.cells #[.bool false,.slice none 0 0,.slice none 0 0] 37))
 have hba:Below w.heap.size w wa:=by rw[hwa];exact((Below.refl _ _).alloc (yAC _) _).alloc (by simp) _
 have q0:wa.heap[s0+1]? =some (.cells #[.bool false,.slice none 0 0,.slice none 0 0] 37 (0,0)):=by
  have:=World.alloc_heap_new (w.alloc (.cells #[.int .i64 N,.int .i64 D] 29)) (.cells #[.bool false,.slice none 0 0,.slice none 0 0] 37)
  rw[hwa,hs]
  simpa using this
 have hs1:s0+1<wa.heap.size:=(yAB.1 q0).1
 have hc:∀o v,(#[Value.int .i64 N,.int .i64 D]:Array Value)[o]? =some v->wa.cell? ⟨s0,o,none⟩=some v:=fun o v h=>by
  rw[hwa,hs,World.cell?_alloc_past _ _ _ (by simp),World.cell?_alloc_at _ _ _ _ rfl];exact h
 have HS:=hid (fun(Y:World) (hY:Below wa.heap.size wa Y)=>show Y.cell? ⟨s0,0,none⟩=some (.int .i64 N)∧Y.cell? ⟨s0,1,none⟩=some (.int .i64 D)from by
  have k0:∀o,Y.cell? ⟨s0,o,none⟩=wa.cell? ⟨s0,o,none⟩:=fun o=>hY.cell (p:=⟨s0,o,none⟩) (by show s0<_;omega)
  exact⟨(k0 0).trans (hc 0 _ rfl),(k0 1).trans (hc 1 _ rfl)⟩)
 have HR:=hid (fun(Y:World) (hY:Below wa.heap.size wa Y)=>show Y.cell? ⟨s0+1,0,none⟩=some (.bool false)∧Y.cell? ⟨s0+1,1,none⟩=some (.slice none 0 0)∧Y.cell? ⟨s0+1,2,none⟩=some (.slice none 0 0)∧(∀o,Y.frozen? ⟨s0+1,o,none⟩=false)∧s0+1<Y.heap.size from by
  have h1:=(hY.block (s0+1) hs1).trans q0
  exact⟨by simp[World.cell?,h1],by simp[World.cell?,h1],by simp[World.cell?,h1],fun o=>by simp[World.frozen?,h1],(yAB.1 h1).1⟩)
 have HFIN:=hid (fun(Y:World) (hY:Below wa.heap.size wa Y) (x y z:Value)=>show Below w.heap.size w (((Y.setCell ⟨s0+1,0,none⟩ x).setCell ⟨s0+1,1,none⟩ y).setCell ⟨s0+1,2,none⟩ z)from
  zAE (zAE (zAE (zAA hba hY) (by omega) 0 x) (by omega) 1 y) (by omega) 2 z)
 have HNG:=hid (fun(Y:World) (hY:Below wa.heap.size wa Y)=>show ∃c,Y.heap[s0+1]? =some (.cells c 37 (0,0))∧∀x:Int,∀o:Nat,c[o]? ≠some (.int .i64 x)from
  ⟨_,(hY.block (s0+1) hs1).trans q0,fun x o=>by match o with|0=>simp|1=>simp|2=>simp|o+3=>simp⟩)
 obtain⟨b,hb⟩:=exq (decide (N<0))
 obtain⟨m,hm⟩:∃m:Int,m=(N.natAbs:Nat):=⟨_,rfl⟩
 rw[<- hb,<- hm]
 have hb2:=hb.symm
 have HM1:=hid (fun X=>natOf_c X m (by omega) (by omega))
 have HM2:=hid (fun X=>natOf_c X D hD.1 (by omega))
 have hng:IntKind.i64.wrap (-N)= -N:=IntWalk.i64_in _ (by omega)
 have hmx:(if-N<=N then N else-N)=m:=by split<;>omega
 have hmx2:(if N<= -N then-N else N)=m:=by split<;>omega
 have hmx3:(if N< -N then-N else N)=m:=by split<;>omega
 clear hba q0 hs1 hc hb hm
 go_enter Tryz.func22,Tryz.ntmps22
 go_wp2_with fail
 rw[<- hs,<- hwa]
 clear hs hwa
 refine zAG (fun j' X=>decide (j'<=13)=true->X.cell? ⟨s0,0,none⟩=some (.int .i64 N)∧X.cell? ⟨s0,1,none⟩=some (.int .i64 D)) (by kernel_rfl) ?_
 have hbd:Below wa.heap.size wa wa.drew:=(Below.refl _ _).drew
 generalize wa.drew=wd at hbd⊢
 refine AnyT.tD (i:=0) (v:=.pointer (some ⟨s0,0,none⟩)) rfl rfl (by rintro w' ⟨y1,y2⟩;go_simp) (HS.out _ hbd) ?_;go_frame
 refine AnyT.tD (i:=1) (v:=.int .i64 N) rfl rfl (by rintro w' ⟨y1,y2⟩;go_simp) (HS.out _ hbd) ?_;go_frame
 refine AnyT.tD (i:=2) (v:=.bool b) rfl rfl (by rintro w' ⟨y1,y2⟩;go_simp) (HS.out _ hbd) ?_;go_frame
 refine AnyT.tD (i:=3) (v:=.pointer (some ⟨s0,0,none⟩)) rfl rfl (by rintro w' ⟨y1,y2⟩;go_simp) (HS.out _ hbd) ?_;go_frame
 refine AnyT.tD (i:=4) (v:=.int .i64 N) rfl rfl (by rintro w' ⟨y1,y2⟩;go_simp) (HS.out _ hbd) ?_;go_frame
 refine AnyT.tD (i:=5) (v:=.pointer (some ⟨s0,0,none⟩)) rfl rfl (by rintro w' ⟨y1,y2⟩;go_simp) (HS.out _ hbd) ?_;go_frame
 refine AnyT.tD (i:=6) (v:=.int .i64 N) rfl rfl (by rintro w' ⟨y1,y2⟩;go_simp) (HS.out _ hbd) ?_;go_frame
 refine AnyT.tD (i:=7) (v:=.int .i64 (-N)) rfl rfl (by rintro w' ⟨y1,y2⟩;go_simp) (HS.out _ hbd) ?_;go_frame
 refine AnyT.tD (i:=10) (v:=.pointer (some ⟨s0,1,none⟩)) rfl rfl (by rintro w' ⟨y1,y2⟩;go_simp) (HS.out _ hbd) ?_;go_frame
 refine AnyT.tD (i:=11) (v:=.int .i64 D) rfl rfl (by rintro w' ⟨y1,y2⟩;go_simp) (HS.out _ hbd) ?_;go_frame
 refine AnyT.nx (i:=8) rfl ?_
 go_wp2
 refine⟨fun _=>HS.out _ hbd,?_⟩
 refine AnyT.nx (i:=9) rfl ?_
 go_wp2_with (go_at_call 74;refine(HM1.out _).mono ?_;rintro e w1 ⟨v1,rfl,hv1,hb1⟩;refine Stop.of ?_)
 refine Stop.go ?_
 obtain⟨a1,n1,c1,rfl⟩:=hv1.slice
 have HV1:=hid hv1
 have HB1:=hid (zAA hbd hb1)
 clear hv1 hb1 hmx hmx2 hmx3 hng
 go_wp2
 refine⟨fun _=>HS.out _ HB1.out,?_⟩
 refine AnyT.nx (i:=12) rfl ?_
 go_wp2_with (go_at_call 74;refine(HM2.out _).mono ?_;rintro e w2 ⟨v2,rfl,hv2,hb2'⟩;refine Stop.of ?_)
 refine Stop.go ?_
 obtain⟨a2,n2,c2,rfl⟩:=hv2.slice
 have HB2:=hid (zAA HB1.out hb2')
 have hv1':=HV1.out.below hb2'
 have HK1:=hid (hv1'.keeps3 (g:=s0+1) (u:=.bool b) (v:=.slice a1 n1 c1) (z:=.slice a2 n2 c2) (HNG.out _ HB2.out))
 have HK2:=hid (hv2.keeps3 (g:=s0+1) (u:=.bool b) (v:=.slice a1 n1 c1) (z:=.slice a2 n2 c2) (HNG.out _ HB2.out))
 obtain⟨x0,x1,x2,hfz,hlt⟩:=HR.out _ HB2.out
 have f0:=hfz 0
 have f1:=hfz 1
 have f2:=hfz 2
 have HFI:=hid (HFIN.out _ HB2.out (.bool b) (.slice a1 n1 c1) (.slice a2 n2 c2))
 clear hv1' hv2 hb2' hfz HV1
 go_wp2
 refine⟨fun _=>HS.out _ HB2.out,?_⟩
 refine AnyT.tD (i:=13) (v:=.agg #[.bool b,.slice a1 n1 c1,.slice a2 n2 c2]) rfl rfl (by rintro w' ⟨y1,y2⟩;go_simp) (HS.out _ HB2.out) ?_;go_frame
 refine AnyT.nx (i:=14) rfl ?_
 go_wp2
 refine⟨fun h=>absurd h (by decide),?_⟩
 refine AnyT.done (by kernel_rfl) ?_ _
 go_wp2
 refine bodyPost_ret (v:=.agg #[.bool b,.slice a1 n1 c1,.slice a2 n2 c2]) ?_ rfl ⟨_,rfl,⟨_,_,_,_,_,_,rfl,HK1.out,HK2.out⟩,HFI.out⟩
 simp[results,Tryz.results22,go_sem,x0,x1,x2,f0,f1,f2,hlt]
theorem nwhole_c(w:World)(n:Int)(hN: -4611686018427387904<=n∧n<=4611686018427387904):
 Calls Tryz.prog 91 #[.int .i64 n] w fun e w'=>∃x,e=.returned x∧RatQ w' x 3 (decide (n<0)) (n.natAbs:Nat) 1∧Below w.heap.size w w':=by
 obtain⟨s0,hs⟩:=exq (w.heap.size)
 obtain⟨wa,hwa⟩:=exq (w.alloc (.cells #[.bool false,.slice none 0 0,.slice none 0 0] 37))
 have hba:Below w.heap.size w wa:=by rw[hwa];exact(Below.refl _ _).alloc (yAC _) _
 have q0:wa.heap[s0]? =some (.cells #[.bool false,.slice none 0 0,.slice none 0 0] 37 (0,0)):=by
  rw[hwa,hs];exact World.alloc_heap_new w _
 have hs1:s0<wa.heap.size:=(yAB.1 q0).1
 have HR:=hid (fun(Y:World) (hY:Below wa.heap.size wa Y)=>show Y.cell? ⟨s0,0,none⟩=some (.bool false)∧Y.cell? ⟨s0,1,none⟩=some (.slice none 0 0)∧Y.cell? ⟨s0,2,none⟩=some (.slice none 0 0)∧(∀o,Y.frozen? ⟨s0,o,none⟩=false)∧s0<Y.heap.size from by
  have h1:=(hY.block s0 hs1).trans q0
  exact⟨by simp[World.cell?,h1],by simp[World.cell?,h1],by simp[World.cell?,h1],fun o=>by simp[World.frozen?,h1],(yAB.1 h1).1⟩)
 have HFIN:=hid (fun(Y:World) (hY:Below wa.heap.size wa Y) (x y z:Value)=>show Below w.heap.size w (((Y.setCell ⟨s0,0,none⟩ x).setCell ⟨s0,1,none⟩ y).setCell ⟨s0,2,none⟩ z)from
  zAE (zAE (zAE (zAA hba hY) (by omega) 0 x) (by omega) 1 y) (by omega) 2 z)
 have HNG:=hid (fun(Y:World) (hY:Below wa.heap.size wa Y)=>show ∃c,Y.heap[s0]? =some (.cells c 37 (0,0))∧∀x:Int,∀o:Nat,c[o]? ≠some (.int .i64 x)from
  ⟨_,(hY.block s0 hs1).trans q0,fun x o=>by match o with|0=>simp|1=>simp|2=>simp|o+3=>simp⟩)
 have HE:=hid (exact_c wa n 1 hN (by decide))
 obtain⟨b,hb⟩:=exq (decide (n<0))
 obtain⟨m,hm⟩:∃m:Int,m=(n.natAbs:Nat):=⟨_,rfl⟩
 rw[<- hb,<- hm]at HE⊢
 clear hba q0 hs1 hb hm
 go_enter Tryz.func91,Tryz.ntmps91
 go_wp2_with fail
 rw[<- hs,<- hwa]
 clear hs hwa
 go_wp2_with (go_at_call 22;refine HE.out.mono ?_;rintro e w2 ⟨v2,rfl,⟨a1,n1,c1,a2,n2,c2,rfl,hv1,hv2⟩,hb2⟩;refine Stop.of ?_)
 refine Stop.go ?_
 have HK1:=hid (hv1.keeps3 (g:=s0) (u:=.bool b) (v:=.slice a1 n1 c1) (z:=.slice a2 n2 c2) (HNG.out _ hb2))
 have HK2:=hid (hv2.keeps3 (g:=s0) (u:=.bool b) (v:=.slice a1 n1 c1) (z:=.slice a2 n2 c2) (HNG.out _ hb2))
 obtain⟨x0,x1,x2,hfz,hlt⟩:=HR.out _ hb2
 have f0:=hfz 0
 have f1:=hfz 1
 have f2:=hfz 2
 have HFI:=hid (HFIN.out _ hb2 (.bool b) (.slice a1 n1 c1) (.slice a2 n2 c2))
 clear hv1 hv2 hb2 hfz
 go_wp2
 refine bodyPost_ret (v:=.agg #[.bool b,.slice a1 n1 c1,.slice a2 n2 c2]) ?_ rfl ⟨_,rfl,⟨_,_,_,_,_,_,rfl,HK1.out,HK2.out⟩,HFI.out⟩
 simp[results,Tryz.results91,go_sem,x0,x1,x2,f0,f1,f2,hlt]
end
section
open Go.RowKit
theorem rtimes_c(w:World)(k:Int)(v:Value)(L:Nat)(s:Bool)(N D:Int)(hk: -4611686018427387904<=k∧k<=4611686018427387904)(h:RatQ w v L s N D)(hL:L<=100):
 Calls Tryz.prog 23 #[.int .i64 k,v] w fun e w'=>∃x,e=.returned x∧RatQ w' x (3+L) (s !=decide (k<0)) ((k.natAbs:Nat)*N) D∧Below w.heap.size w w':=by
 obtain⟨na,nn,nc,da,dn,dc,rfl,hN,hD⟩:=h
 obtain⟨s0,hs⟩:=exq (w.heap.size)
 obtain⟨wa,hwa⟩:=exq ((w.alloc (.cells #[.bool s,.slice na nn nc,.slice da dn dc] 37)).alloc (.cells #[.bool false,.slice none 0 0,.slice none 0 0] 37))
 have hba:Below w.heap.size w wa:=by rw[hwa];exact((Below.refl _ _).alloc (yAC _) _).alloc (by simp) _
 have q0:wa.heap[s0+1]? =some (.cells #[.bool false,.slice none 0 0,.slice none 0 0] 37 (0,0)):=by
  have:=World.alloc_heap_new (w.alloc (.cells #[.bool s,.slice na nn nc,.slice da dn dc] 37)) (.cells #[.bool false,.slice none 0 0,.slice none 0 0] 37)
  rw[hwa,hs]
  simpa using this
 have hs1:s0+1<wa.heap.size:=(yAB.1 q0).1
 have hc:∀o v,(#[Value.bool s,.slice na nn nc,.slice da dn dc]:Array Value)[o]? =some v->wa.cell? ⟨s0,o,none⟩=some v:=fun o v h=>by
  rw[hwa,hs,World.cell?_alloc_past _ _ _ (by simp),World.cell?_alloc_at _ _ _ _ rfl];exact h
 have HS:=hid (fun(Y:World) (hY:Below wa.heap.size wa Y)=>show Y.cell? ⟨s0,0,none⟩=some (.bool s)∧Y.cell? ⟨s0,1,none⟩=some (.slice na nn nc)∧Y.cell? ⟨s0,2,none⟩=some (.slice da dn dc)from by
  have k0:∀o,Y.cell? ⟨s0,o,none⟩=wa.cell? ⟨s0,o,none⟩:=fun o=>hY.cell (p:=⟨s0,o,none⟩) (by show s0<_;omega)
  exact⟨(k0 0).trans (hc 0 _ rfl),(k0 1).trans (hc 1 _ rfl),(k0 2).trans (hc 2 _ rfl)⟩)
 have HR:=hid (fun(Y:World) (hY:Below wa.heap.size wa Y)=>show Y.cell? ⟨s0+1,0,none⟩=some (.bool false)∧Y.cell? ⟨s0+1,1,none⟩=some (.slice none 0 0)∧Y.cell? ⟨s0+1,2,none⟩=some (.slice none 0 0)∧(∀o,Y.frozen? ⟨s0+1,o,none⟩=false)∧s0+1<Y.heap.size from by
  have h1:=(hY.block (s0+1) hs1).trans q0
  exact⟨by simp[World.cell?,h1],by simp[World.cell?,h1],by simp[World.cell?,h1],fun o=>by simp[World.frozen?,h1],(yAB.1 h1).1⟩)
 have HFIN:=hid (fun(Y:World) (hY:Below wa.heap.size wa Y) (x y z:Value)=>show Below w.heap.size w (((Y.setCell ⟨s0+1,0,none⟩ x).setCell ⟨s0+1,1,none⟩ y).setCell ⟨s0+1,2,none⟩ z)from
  zAE (zAE (zAE (zAA hba hY) (by omega) 0 x) (by omega) 1 y) (by omega) 2 z)
 have HNG:=hid (fun(Y:World) (hY:Below wa.heap.size wa Y)=>show ∃c,Y.heap[s0+1]? =some (.cells c 37 (0,0))∧∀x:Int,∀o:Nat,c[o]? ≠some (.int .i64 x)from
  ⟨_,(hY.block (s0+1) hs1).trans q0,fun x o=>by match o with|0=>simp|1=>simp|2=>simp|o+3=>simp⟩)
 have HNN:=hid (fun(Y:World) (hY:Below wa.heap.size wa Y)=>And.intro (hN.below (zAA hba hY)) (hD.below (zAA hba hY)))
 obtain⟨b,hb⟩:=exq (decide (k<0))
 obtain⟨m,hm⟩:∃m:Int,m=(k.natAbs:Nat):=⟨_,rfl⟩
 rw[<- hb,<- hm]
 have hb2:=hb.symm
 have HM1:=hid (fun X=>natOf_c X m (by omega) (by omega))
 have hng:IntKind.i64.wrap (-k)= -k:=IntWalk.i64_in _ (by omega)
 have hmx:(if-k<=k then k else-k)=m:=by split<;>omega
 have hmx2:(if k<= -k then-k else k)=m:=by split<;>omega
 have hmx3:(if k< -k then-k else k)=m:=by split<;>omega
 clear hba q0 hs1 hc hb hm hN hD
 go_enter Tryz.func23,Tryz.ntmps23
 go_wp2_with fail
 rw[<- hs,<- hwa]
 clear hs hwa
 refine zAG (fun j' X=>decide (j'<=15)=true->X.cell? ⟨s0,0,none⟩=some (.bool s)∧X.cell? ⟨s0,1,none⟩=some (.slice na nn nc)∧X.cell? ⟨s0,2,none⟩=some (.slice da dn dc)) (by kernel_rfl) ?_
 have hbd:Below wa.heap.size wa wa.drew:=(Below.refl _ _).drew
 generalize wa.drew=wd at hbd⊢
 refine AnyT.tD (i:=0) (v:=.pointer (some ⟨s0,0,none⟩)) rfl rfl (by rintro w' ⟨y1,y2,y3⟩;go_simp) (HS.out _ hbd) ?_;go_frame
 refine AnyT.tD (i:=1) (v:=.bool s) rfl rfl (by rintro w' ⟨y1,y2,y3⟩;go_simp) (HS.out _ hbd) ?_;go_frame
 refine AnyT.tD (i:=2) (v:=.int .i64 k) rfl rfl (by rintro w' ⟨y1,y2,y3⟩;go_simp) (HS.out _ hbd) ?_;go_frame
 refine AnyT.tD (i:=3) (v:=.bool b) rfl rfl (by rintro w' ⟨y1,y2,y3⟩;go_simp) (HS.out _ hbd) ?_;go_frame
 refine AnyT.tD (i:=4) (v:=.bool (!(s==b))) rfl rfl (by rintro w' ⟨y1,y2,y3⟩;go_simp) (HS.out _ hbd) ?_;go_frame
 refine AnyT.tD (i:=5) (v:=.int .i64 k) rfl rfl (by rintro w' ⟨y1,y2,y3⟩;go_simp) (HS.out _ hbd) ?_;go_frame
 refine AnyT.tD (i:=6) (v:=.int .i64 k) rfl rfl (by rintro w' ⟨y1,y2,y3⟩;go_simp) (HS.out _ hbd) ?_;go_frame
 refine AnyT.tD (i:=7) (v:=.int .i64 (-k)) rfl rfl (by rintro w' ⟨y1,y2,y3⟩;go_simp) (HS.out _ hbd) ?_;go_frame
 refine AnyT.tD (i:=10) (v:=.pointer (some ⟨s0,1,none⟩)) rfl rfl (by rintro w' ⟨y1,y2,y3⟩;go_simp) (HS.out _ hbd) ?_;go_frame
 refine AnyT.tD (i:=11) (v:=.slice na nn nc) rfl rfl (by rintro w' ⟨y1,y2,y3⟩;go_simp) (HS.out _ hbd) ?_;go_frame
 refine AnyT.tD (i:=13) (v:=.pointer (some ⟨s0,2,none⟩)) rfl rfl (by rintro w' ⟨y1,y2,y3⟩;go_simp) (HS.out _ hbd) ?_;go_frame
 refine AnyT.tD (i:=14) (v:=.slice da dn dc) rfl rfl (by rintro w' ⟨y1,y2,y3⟩;go_simp) (HS.out _ hbd) ?_;go_frame
 refine AnyT.nx (i:=8) rfl ?_
 go_wp2
 refine⟨fun _=>HS.out _ hbd,?_⟩
 refine AnyT.nx (i:=9) rfl ?_
 go_wp2_with (go_at_call 74;refine(HM1.out _).mono ?_;rintro e w1 ⟨v1,rfl,hv1,hb1⟩;refine Stop.of ?_)
 refine Stop.go ?_
 obtain⟨a1,n1,c1,rfl⟩:=hv1.slice
 have HV1:=hid hv1
 have HB1:=hid (zAA hbd hb1)
 clear hv1 hb1 hmx hmx2 hmx3 hng
 go_wp2
 refine⟨fun _=>HS.out _ HB1.out,?_⟩
 refine AnyT.nx (i:=12) rfl ?_
 go_wp2_with (go_at_call 75;refine(zME _ _ _ 3 L _ _ HV1.out (HNN.out _ HB1.out).1 (by omega) (by omega)).mono ?_;rintro e w2 ⟨v2,rfl,hv2,hb2'⟩;refine Stop.of ?_)
 refine Stop.go ?_
 obtain⟨a2,n2,c2,rfl⟩:=hv2.slice
 have HB2:=hid (zAA HB1.out hb2')
 have hd2:=(HNN.out _ HB2.out).2
 have HK1:=hid (hv2.keeps3 (g:=s0+1) (u:=.bool (!(s==b))) (v:=.slice a2 n2 c2) (z:=.slice da dn dc) (HNG.out _ HB2.out))
 have HK2:=hid ((hd2.keeps3 (g:=s0+1) (u:=.bool (!(s==b))) (v:=.slice a2 n2 c2) (z:=.slice da dn dc) (HNG.out _ HB2.out)).le (show L<=3+L by omega))
 obtain⟨x0,x1,x2,hfz,hlt⟩:=HR.out _ HB2.out
 have f0:=hfz 0
 have f1:=hfz 1
 have f2:=hfz 2
 have HFI:=hid (HFIN.out _ HB2.out (.bool (!(s==b))) (.slice a2 n2 c2) (.slice da dn dc))
 clear hv2 hd2 hb2' hfz HV1
 go_wp2
 refine⟨fun _=>HS.out _ HB2.out,?_⟩
 refine AnyT.tD (i:=15) (v:=.agg #[.bool (!(s==b)),.slice a2 n2 c2,.slice da dn dc]) rfl rfl (by rintro w' ⟨y1,y2,y3⟩;go_simp) (HS.out _ HB2.out) ?_;go_frame
 refine AnyT.nx (i:=16) rfl ?_
 go_wp2
 refine⟨fun h=>absurd h (by decide),?_⟩
 refine AnyT.done (by kernel_rfl) ?_ _
 go_wp2
 refine bodyPost_ret (v:=.agg #[.bool (!(s==b)),.slice a2 n2 c2,.slice da dn dc]) ?_ rfl ⟨_,rfl,⟨_,_,_,_,_,_,rfl,HK1.out,HK2.out⟩,HFI.out⟩
 simp[results,Tryz.results23,go_sem,x0,x1,x2,f0,f1,f2,hlt]
end
section
open Go.RowKit
def sgn(s:Bool)(N:Int):Int:=if s=true then-N else N
theorem plusQ_val{s t:Bool}{N D M E:Int}:sgn (zGD (s,N,D) (t,M,E)).1 (zGD (s,N,D) (t,M,E)).2.1=sgn s N*E+sgn t M*D:=by
 unfold zGD sgn
 cases s<;>cases t<;>simp<;>(try split)<;>(try simp)<;>grind
theorem plusQ_den{s t:Bool}{N D M E:Int}:(zGD (s,N,D) (t,M,E)).2.2=D*E:=by
 unfold zGD
 simp only[]
 split
 ·rfl
 ·split<;>rfl
theorem rat_new{Y:World}{g:Nat}(h:Y.heap[g]? =some (.cells #[.bool false,.slice none 0 0,.slice none 0 0] 37 (0,0))):
 Y.cell? ⟨g,0,none⟩=some (.bool false)∧Y.cell? ⟨g,1,none⟩=some (.slice none 0 0)∧Y.cell? ⟨g,2,none⟩=some (.slice none 0 0)∧Y.frozen? ⟨g,0,none⟩=false∧Y.frozen? ⟨g,1,none⟩=false∧Y.frozen? ⟨g,2,none⟩=false∧g<Y.heap.size:=
 ⟨by simp[World.cell?,h],by simp[World.cell?,h],by simp[World.cell?,h],by simp[World.frozen?,h],by simp[World.frozen?,h],by simp[World.frozen?,h],(yAB.1 h).1⟩
theorem zKM{Y:World}{g:Nat}{c:Array Value}{T:TypeId}{fz:Nat×Nat}(h:Y.heap[g]? =some (.cells c T fz))(o:Nat)(v:Value):(Y.setCell ⟨g,o,none⟩ v).heap[g]? =some (.cells (c.setIfInBounds o v) T fz):=by
 obtain⟨hlt,hk⟩:=yAB.1 h
 show(Y.heap.modify g _)[g]? =_
 rw[yDN (by rw[Array.size_modify];exact hlt),yGE,hk]
 rfl
theorem rat_set{wa Y:World}{g N:Nat}(h:Y.heap[g]? =some (.cells #[.bool false,.slice none 0 0,.slice none 0 0] 37 (0,0)))(hg:N<=g)(hb:Below N wa Y)(u v z:Value):
 (((Y.setCell ⟨g,0,none⟩ u).setCell ⟨g,1,none⟩ v).setCell ⟨g,2,none⟩ z).cell? ⟨g,0,none⟩=some u∧(((Y.setCell ⟨g,0,none⟩ u).setCell ⟨g,1,none⟩ v).setCell ⟨g,2,none⟩ z).cell? ⟨g,1,none⟩=some v∧
 (((Y.setCell ⟨g,0,none⟩ u).setCell ⟨g,1,none⟩ v).setCell ⟨g,2,none⟩ z).cell? ⟨g,2,none⟩=some z∧Below N wa (((Y.setCell ⟨g,0,none⟩ u).setCell ⟨g,1,none⟩ v).setCell ⟨g,2,none⟩ z):=by
 have e:(((Y.setCell ⟨g,0,none⟩ u).setCell ⟨g,1,none⟩ v).setCell ⟨g,2,none⟩ z).heap[g]? =some (.cells #[u,v,z] 37 (0,0)):=by
  have h1:=zKM h 0 u
  have h2:=zKM h1 1 v
  have h3:=zKM h2 2 z
  exact h3
 exact⟨by simp[World.cell?,e],by simp[World.cell?,e],by simp[World.cell?,e],zAE (zAE (zAE hb hg 0 u) hg 1 v) hg 2 z⟩
def OrdMid(wa:World)(P1:Bool)(P2:Int)(fr fr':Act)(W:World):Prop:=
 ∃g pa pn pc qa qn qc r6 r7 r8 r9,fr'=(((((fr.put (some 6) r6).put (some 7) r7).put (some 8) r8).put (some 9) r9).put (some 5) (.pointer (some ⟨g,0,none⟩)))∧
  W.cell? ⟨g,0,none⟩=some (.bool P1)∧W.cell? ⟨g,1,none⟩=some (.slice pa pn pc)∧W.cell? ⟨g,2,none⟩=some (.slice qa qn qc)∧(pn=0↔P2=0)∧0<=P2∧Below wa.heap.size wa W
theorem rorder_c(w:World)(v u:Value)(L K:Nat)(s t:Bool)(N D M E:Int)(h:RatQ w v L s N D)(k:RatQ w u K t M E)(hL:L<=100)(hK:K<=97):
 Calls Tryz.prog 21 #[v,u] w fun e w'=>e=.returned (.int .i64 (cmpI (sgn s N*E) (sgn t M*D)))∧Below w.heap.size w w':=by
 obtain⟨na,nn,nc,da,dn,dc,rfl,hN,hD⟩:=h
 obtain⟨ma,mn,mc,ea,en,ec,rfl,hM,hE⟩:=k
 obtain⟨s0,hs⟩:=exq (w.heap.size)
 obtain⟨wa,hwa⟩:=exq ((w.alloc (.cells #[.bool s,.slice na nn nc,.slice da dn dc] 37)).alloc (.cells #[.bool t,.slice ma mn mc,.slice ea en ec] 37))
 have hba:Below w.heap.size w wa:=by rw[hwa];exact((Below.refl _ _).alloc (yAC _) _).alloc (by simp) _
 have hs1:s0+1<wa.heap.size:=by rw[hwa,hs];simp
 have hc:∀o v,(#[Value.bool s,.slice na nn nc,.slice da dn dc]:Array Value)[o]? =some v->wa.cell? ⟨s0,o,none⟩=some v:=fun o v h=>by
  rw[hwa,hs,World.cell?_alloc_past _ _ _ (by simp),World.cell?_alloc_at _ _ _ _ rfl];exact h
 have hc2:∀o v,(#[Value.bool t,.slice ma mn mc,.slice ea en ec]:Array Value)[o]? =some v->wa.cell? ⟨s0+1,o,none⟩=some v:=fun o v h=>by
  rw[hwa,hs,World.cell?_alloc_at _ _ _ _ (by simp)];exact h
 have HS:=hid (fun(Y:World) (hY:Below wa.heap.size wa Y)=>show Y.cell? ⟨s0,0,none⟩=some (.bool s)∧Y.cell? ⟨s0,1,none⟩=some (.slice na nn nc)∧Y.cell? ⟨s0,2,none⟩=some (.slice da dn dc)∧Y.cell? ⟨s0+1,0,none⟩=some (.bool t)∧Y.cell? ⟨s0+1,1,none⟩=some (.slice ma mn mc)∧Y.cell? ⟨s0+1,2,none⟩=some (.slice ea en ec)from by
  have k0:∀o,Y.cell? ⟨s0,o,none⟩=wa.cell? ⟨s0,o,none⟩:=fun o=>hY.cell (p:=⟨s0,o,none⟩) (by show s0<_;omega)
  have k1:∀o,Y.cell? ⟨s0+1,o,none⟩=wa.cell? ⟨s0+1,o,none⟩:=fun o=>hY.cell (p:=⟨s0+1,o,none⟩) (by show s0+1<_;omega)
  exact⟨(k0 0).trans (hc 0 _ rfl),(k0 1).trans (hc 1 _ rfl),(k0 2).trans (hc 2 _ rfl),(k1 0).trans (hc2 0 _ rfl),(k1 1).trans (hc2 1 _ rfl),(k1 2).trans (hc2 2 _ rfl)⟩)
 have HBA:=hid hba
 have HT:=hid (fun(Y:World) (hY:Below wa.heap.size wa Y)=>show Calls Tryz.prog 23 #[.int .i64 (-1),.agg #[.bool t,.slice ma mn mc,.slice ea en ec]] Y (fun e w'=>∃x,e=.returned x∧RatQ w' x (3+K) (!t) M E∧Below Y.heap.size Y w')from by
  have h0:=rtimes_c Y (-1) (.agg #[.bool t,.slice ma mn mc,.slice ea en ec]) K t M E (by decide) ⟨_,_,_,_,_,_,rfl,hM.below (zAA hba hY),hE.below (zAA hba hY)⟩ (by omega)
  have e1:(t !=decide ((-1:Int)<0))=!t:=by cases t<;>rfl
  have e2:(((-1:Int).natAbs:Nat):Int)*M=M:=by simp
  rwa [e1,e2]at h0)
 have HA:=hid (fun(Y:World) (hY:Below wa.heap.size wa Y)=>show RatQ Y (.agg #[.bool s,.slice na nn nc,.slice da dn dc]) L s N D from⟨_,_,_,_,_,_,rfl,hN.below (zAA hba hY),hD.below (zAA hba hY)⟩)
 obtain⟨⟨P1,P2,P3⟩,hP⟩:∃P,P=zGD (s,N,D) (!t,M,E):=⟨_,rfl⟩
 have HP:=hid hP
 have HVAL:=hid (show sgn P1 P2=sgn s N*E-sgn t M*D from by
  have h1:=plusQ_val (s:=s) (t:=!t) (N:=N) (D:=D) (M:=M) (E:=E)
  rw[<- hP]at h1
  simp only[]at h1
  have h2:sgn (!t) M= -sgn t M:=by cases t<;>simp[sgn]
  rw[h2]at h1
  rw[h1,yGK]
  omega)
 clear hP
 obtain⟨C,hC⟩:=exq (cmpI (sgn s N*E) (sgn t M*D))
 rw[<- hC]
 have HVC:=hid (show(P2=0->C=0)∧(P2≠0->0<=P2->P1=false->C=1)∧(P2≠0->0<=P2->P1=true->C= -1)from by
  rw[hC]
  have hval:=HVAL.out
  generalize sgn s N*E=X at hval⊢
  generalize sgn t M*D=Y at hval⊢
  unfold cmpI
  refine⟨fun h=>?_,fun h h0 e=>?_,fun h h0 e=>?_⟩
  ·subst h
   have:X=Y:=by unfold sgn at hval;split at hval<;>omega
   simp[this]
  ·subst e
   have:P2=X-Y:=by simpa[sgn]using hval
   rw[if_neg (by omega),if_neg (by omega)]
  ·subst e
   have: -P2=X-Y:=by simpa[sgn]using hval
   rw[if_pos (by omega)])
 clear hC HVAL
 clear hba hs1 hc hc2 hN hD hM hE
 go_enter Tryz.func21,Tryz.ntmps21
 go_wp2_with fail
 rw[<- hs,<- hwa]
 clear hs hwa
 refine zKQ (OrdMid wa P1 P2) ?_ ?_
 ·refine zAG (fun j' X=>wAll j'=true->X.cell? ⟨s0,0,none⟩=some (.bool s)∧X.cell? ⟨s0,1,none⟩=some (.slice na nn nc)∧X.cell? ⟨s0,2,none⟩=some (.slice da dn dc)∧X.cell? ⟨s0+1,0,none⟩=some (.bool t)∧X.cell? ⟨s0+1,1,none⟩=some (.slice ma mn mc)∧X.cell? ⟨s0+1,2,none⟩=some (.slice ea en ec)) (by kernel_rfl) ?_
  have hbd:Below wa.heap.size wa wa.drew:=(Below.refl _ _).drew
  generalize wa.drew=wd at hbd⊢
  refine AnyT.tD (i:=0) (v:=.agg #[.bool s,.slice na nn nc,.slice da dn dc]) rfl rfl (by rintro w' ⟨y1,y2,y3,y4,y5,y6⟩;go_simp) (HS.out _ hbd) ?_;go_frame
  refine AnyT.tD (i:=1) (v:=.agg #[.bool t,.slice ma mn mc,.slice ea en ec]) rfl rfl (by rintro w' ⟨y1,y2,y3,y4,y5,y6⟩;go_simp) (HS.out _ hbd) ?_;go_frame
  refine AnyT.nextB (i:=2) (j:=4) (by kernel_rfl) (wpOp_of_list rfl ?_) (wpOp_of_list rfl ?_)
  ·skip
   go_wp2_with (go_at_call 23;refine(HT.out _ hbd).mono ?_;rintro e w1 ⟨vw1,rfl,⟨ta,tn,tc,tb,tm,te,rfl,ht1,ht2⟩,hbw1⟩;refine Stop.of ?_)
   refine Stop.go ?_
   have HT8:=hid (show RatQ w1 (.agg #[.bool (!t),.slice ta tn tc,.slice tb tm te]) (3+K) (!t) M E from⟨_,_,_,_,_,_,rfl,ht1,ht2⟩)
   have hbT:=zAA hbd hbw1
   clear ht1 ht2
   go_wp2
   refine⟨fun _=>HS.out _ hbT,?_⟩
   refine AnyT.nextB (i:=3) (j:=4) (by kernel_rfl) (wpOp_of_list rfl ?_) (wpOp_of_list rfl ?_)
   ·skip
    go_wp2_with (go_at_call 24;refine(zQU _ _ _ L (3+K) _ _ _ _ _ _ (HA.out _ hbT) HT8.out (by omega) (by omega)).mono ?_;rintro e w2 ⟨vw2,rfl,⟨pa,pn,pc,qa,qn,qc,rfl,hp1,hp2⟩,hbw2⟩;refine Stop.of ?_)
    refine Stop.go ?_
    have hbP:=zAA hbT hbw2
    have HPZ:=hid (show(pn=0↔P2=0)∧0<=P2 from by
     rw[<- HP.out]at hp1
     refine⟨?_,hp1.nonneg⟩
     obtain⟨_,_,_,l,e1,e2,_,_,e4,e5,e6⟩:=hp1
     cases e1
     simp only[]at e6
     rw[<- e6,zMP e4 e5,e2])
    have HPB:=hid (show(zGD (s,N,D) (!t,M,E)).1=P1 from by rw[<- HP.out])
    clear hp1 hp2
    go_wp2
    refine⟨fun _=>HS.out _ hbP,?_⟩
    refine AnyT.nx (i:=4) rfl ?_
    go_wp2
    have hbA:=hbP.alloc hbP.size (.cells #[.bool false,.slice none 0 0,.slice none 0 0] 37)
    obtain⟨x0,x1,x2,f0,f1,f2,hlt⟩:=rat_new (World.alloc_heap_new w2 (.cells #[.bool false,.slice none 0 0,.slice none 0 0] 37))
    have hfin:=hid (fun u v z=>rat_set (World.alloc_heap_new w2 (.cells #[.bool false,.slice none 0 0,.slice none 0 0] 37)) hbP.size hbA u v z)
    refine⟨fun _=>HS.out _ hbA,?_⟩
    generalize w2.alloc (.cells #[.bool false,.slice none 0 0,.slice none 0 0] 37)=wn at*
    generalize w2.heap.size=g at*
    refine AnyT.nx (i:=5) rfl ?_
    go_wp2
    obtain⟨k0,k1,k2,k3⟩:=hfin.out (.bool (zGD (s,N,D) (!t,M,E)).1) (.slice pa pn pc) (.slice qa qn qc)
    refine⟨fun _=>HS.out _ k3,?_⟩
    refine AnyT.done (by kernel_rfl) ?_ _
    exact⟨rfl,g,pa,pn,pc,qa,qn,qc,_,_,_,_,rfl,k0.trans (congrArg (fun q=>some (Value.bool q)) HPB.out),k1,k2,HPZ.out.1,HPZ.out.2,k3⟩
   ·skip
    go_wp2
    have hbA:=hbT.alloc hbT.size (.cells #[.bool false,.slice none 0 0,.slice none 0 0] 37)
    have hnew:=World.alloc_heap_new w1 (.cells #[.bool false,.slice none 0 0,.slice none 0 0] 37)
    have HT9:=hid (show RatQ (w1.alloc (.cells #[.bool false,.slice none 0 0,.slice none 0 0] 37)) (.agg #[.bool (!t),.slice ta tn tc,.slice tb tm te]) (3+K) (!t) M E from by
     obtain⟨_,_,_,_,_,_,e,h1,h2⟩:=HT8.out
     cases e
     exact⟨_,_,_,_,_,_,rfl,h1.below ((Below.refl _ _).alloc (yAC _) _),h2.below ((Below.refl _ _).alloc (yAC _) _)⟩)
    have hgN:=hbT.size
    generalize w1.alloc (.cells #[.bool false,.slice none 0 0,.slice none 0 0] 37)=wn at hbA hnew HT9⊢
    obtain⟨g,hg⟩:=exq (w1.heap.size)
    rw[<- hg]at hnew hgN⊢
    clear hg HT8
    refine⟨fun _=>HS.out _ hbA,?_⟩
    refine AnyT.nx (i:=3) rfl ?_
    go_wp2_with (go_at_call 24;refine(zQU _ _ _ L (3+K) _ _ _ _ _ _ (HA.out _ hbA) HT9.out (by omega) (by omega)).mono ?_;rintro e w2 ⟨vw2,rfl,⟨pa,pn,pc,qa,qn,qc,rfl,hp1,hp2⟩,hbw2⟩;refine Stop.of ?_)
    refine Stop.go ?_
    have hbP:=zAA hbA hbw2
    have HPZ:=hid (show(pn=0↔P2=0)∧0<=P2 from by
     rw[<- HP.out]at hp1
     refine⟨?_,hp1.nonneg⟩
     obtain⟨_,_,_,l,e1,e2,_,_,e4,e5,e6⟩:=hp1
     cases e1
     simp only[]at e6
     rw[<- e6,zMP e4 e5,e2])
    have HPB:=hid (show(zGD (s,N,D) (!t,M,E)).1=P1 from by rw[<- HP.out])
    clear hp1 hp2
    have hnew2:=(hbw2.block g (yAB.1 hnew).1).trans hnew
    obtain⟨x0,x1,x2,f0,f1,f2,hlt⟩:=rat_new hnew2
    have hfin:=hid (fun u v z=>rat_set hnew2 hgN hbP u v z)
    clear hnew2 hnew
    go_wp2
    refine⟨fun _=>HS.out _ hbP,?_⟩
    refine AnyT.nx (i:=5) rfl ?_
    go_wp2
    obtain⟨k0,k1,k2,k3⟩:=hfin.out (.bool (zGD (s,N,D) (!t,M,E)).1) (.slice pa pn pc) (.slice qa qn qc)
    refine⟨fun _=>HS.out _ k3,?_⟩
    refine AnyT.done (by kernel_rfl) ?_ _
    exact⟨rfl,g,pa,pn,pc,qa,qn,qc,_,_,_,_,rfl,k0.trans (congrArg (fun q=>some (Value.bool q)) HPB.out),k1,k2,HPZ.out.1,HPZ.out.2,k3⟩
  ·skip
   go_wp2
   have HB0:=hbd.alloc hbd.size (.cells #[.bool false,.slice none 0 0,.slice none 0 0] 37)
   have hnew:=World.alloc_heap_new wd (.cells #[.bool false,.slice none 0 0,.slice none 0 0] 37)
   have hgN:=hbd.size
   generalize wd.alloc (.cells #[.bool false,.slice none 0 0,.slice none 0 0] 37)=wn at HB0 hnew⊢
   obtain⟨g,hg⟩:=exq (wd.heap.size)
   rw[<- hg]at hnew hgN⊢
   clear hg
   refine⟨fun _=>HS.out _ HB0,?_⟩
   refine AnyT.nx (i:=2) rfl ?_
   ·skip
    go_wp2_with (go_at_call 23;refine(HT.out _ HB0).mono ?_;rintro e w1 ⟨vw1,rfl,⟨ta,tn,tc,tb,tm,te,rfl,ht1,ht2⟩,hbw1⟩;refine Stop.of ?_)
    refine Stop.go ?_
    have HT8:=hid (show RatQ w1 (.agg #[.bool (!t),.slice ta tn tc,.slice tb tm te]) (3+K) (!t) M E from⟨_,_,_,_,_,_,rfl,ht1,ht2⟩)
    have hbT:=zAA HB0 hbw1
    clear ht1 ht2
    have hnew1:=(hbw1.block g (yAB.1 hnew).1).trans hnew
    clear hnew
    go_wp2
    refine⟨fun _=>HS.out _ hbT,?_⟩
    refine AnyT.nx (i:=3) rfl ?_
    go_wp2_with (go_at_call 24;refine(zQU _ _ _ L (3+K) _ _ _ _ _ _ (HA.out _ hbT) HT8.out (by omega) (by omega)).mono ?_;rintro e w2 ⟨vw2,rfl,⟨pa,pn,pc,qa,qn,qc,rfl,hp1,hp2⟩,hbw2⟩;refine Stop.of ?_)
    refine Stop.go ?_
    have hbP:=zAA hbT hbw2
    have HPZ:=hid (show(pn=0↔P2=0)∧0<=P2 from by
     rw[<- HP.out]at hp1
     refine⟨?_,hp1.nonneg⟩
     obtain⟨_,_,_,l,e1,e2,_,_,e4,e5,e6⟩:=hp1
     cases e1
     simp only[]at e6
     rw[<- e6,zMP e4 e5,e2])
    have HPB:=hid (show(zGD (s,N,D) (!t,M,E)).1=P1 from by rw[<- HP.out])
    clear hp1 hp2
    have hnew2:=(hbw2.block g (yAB.1 hnew1).1).trans hnew1
    obtain⟨x0,x1,x2,f0,f1,f2,hlt⟩:=rat_new hnew2
    have hfin:=hid (fun u v z=>rat_set hnew2 hgN hbP u v z)
    clear hnew2 hnew1
    go_wp2
    refine⟨fun _=>HS.out _ hbP,?_⟩
    refine AnyT.nx (i:=5) rfl ?_
    go_wp2
    obtain⟨k0,k1,k2,k3⟩:=hfin.out (.bool (zGD (s,N,D) (!t,M,E)).1) (.slice pa pn pc) (.slice qa qn qc)
    refine⟨fun _=>HS.out _ k3,?_⟩
    refine AnyT.done (by kernel_rfl) ?_ _
    exact⟨rfl,g,pa,pn,pc,qa,qn,qc,_,_,_,_,rfl,k0.trans (congrArg (fun q=>some (Value.bool q)) HPB.out),k1,k2,HPZ.out.1,HPZ.out.2,k3⟩
 ·rintro fr' W ⟨g,pa,pn,pc,qa,qn,qc,r6,r7,r8,r9,rfl,c0,c1,c2,hz,h0,hbW⟩
  have HBW:=hid (zAA HBA.out hbW)
  have HC:=hid (show(pn=0->C=0)∧(pn≠0->P1=false->C=1)∧(pn≠0->P1=true->C= -1)from
   ⟨fun h=>HVC.out.1 (hz.1 h),fun h e=>HVC.out.2.1 (fun h'=>h (hz.2 h')) h0 e,fun h e=>HVC.out.2.2 (fun h'=>h (hz.2 h')) h0 e⟩)
  clear hz hbW h0 HVC HP
  go_frame
  by_cases hp:pn=0
  ·have hpb:((pn:Int)==0)=true:=by simp[hp]
   obtain rfl:=HC.out.1 hp
   clear HC
   go_wp2
   go_ret
   exact⟨rfl,HBW.out⟩
  ·have hpb:((pn:Int)==0)=false:=by simp[hp]
   cases P1
   ·obtain rfl:=HC.out.2.1 hp rfl
    clear HC
    go_wp2
    go_ret
    exact⟨rfl,HBW.out⟩
   ·obtain rfl:=HC.out.2.2 hp rfl
    clear HC
    go_wp2
    go_ret
    exact⟨rfl,HBW.out⟩
end
section
open Go.RowKit
theorem RatQ.cast_den{w:World}{v:Value}{L:Nat}{s:Bool}{N D E:Int}(h:RatQ w v L s N D)(e:D=E):RatQ w v L s N E:=e▸h
def RatV(w:World)(v:Value)(L:Nat)(n d:Int):Prop:=∃s N,RatQ w v L s N d∧sgn s N=n
theorem RatV.below{w w':World}{v:Value}{L:Nat}{n d:Int}(h:RatV w v L n d)(hb:Below w.heap.size w w'):RatV w' v L n d:=by
 obtain⟨s,N,h,e⟩:=h
 exact⟨s,N,h.below hb,e⟩
theorem RatV.agg{w:World}{v:Value}{L:Nat}{n d:Int}(h:RatV w v L n d):∃s a k c b m e,v=.agg #[.bool s,.slice a k c,.slice b m e]∧True:=by
 obtain⟨s,N,⟨a,k,c,b,m,e,rfl,_,_⟩,_⟩:=h
 exact⟨s,a,k,c,b,m,e,rfl,trivial⟩
theorem RatV.le{w:World}{v:Value}{L K:Nat}{n d:Int}(h:RatV w v L n d)(hk:L<=K):RatV w v K n d:=by
 obtain⟨s,N,h,e⟩:=h
 exact⟨s,N,h.le hk,e⟩
theorem sgn_nat(N:Int):sgn (decide (N<0)) (N.natAbs:Nat)=N:=by
 unfold sgn
 by_cases h:N<0<;>simp[h]<;>omega
theorem sgn_mul(k N:Int)(s:Bool):sgn (s !=decide (k<0)) ((k.natAbs:Nat)*N)=k*sgn s N:=by
 have hk:=sgn_nat k
 obtain⟨m,hm⟩:∃m:Int,m=(k.natAbs:Nat):=⟨_,rfl⟩
 rw[<- hm]at hk⊢
 obtain⟨b,hb⟩:=exq (decide (k<0))
 rw[<- hb]at hk⊢
 subst hk
 unfold sgn
 cases s<;>cases b<;>simp[yGK,yGL]
theorem rplus_v(w:World)(v u:Value)(L K:Nat)(n d m e:Int)(h:RatV w v L n d)(k:RatV w u K m e)(hL:L<=100)(hK:K<=100):
 Calls Tryz.prog 24 #[v,u] w fun e' w'=>∃x,e'=.returned x∧RatV w' x (L+K+1) (n*e+m*d) (d*e)∧Below w.heap.size w w':=by
 obtain⟨s,N,h,rfl⟩:=h
 obtain⟨t,M,k,rfl⟩:=k
 refine(zQU w v u L K s t N d M e h k hL hK).mono ?_
 rintro e' w' ⟨x,rfl,hx,hb⟩
 refine⟨x,rfl,⟨_,_,hx.cast_den plusQ_den,plusQ_val⟩,hb⟩
theorem rtimes_v(w:World)(k:Int)(v:Value)(L:Nat)(n d:Int)(hk: -4611686018427387904<=k∧k<=4611686018427387904)(h:RatV w v L n d)(hL:L<=100):
 Calls Tryz.prog 23 #[.int .i64 k,v] w fun e w'=>∃x,e=.returned x∧RatV w' x (3+L) (k*n) d∧Below w.heap.size w w':=by
 obtain⟨s,N,h,rfl⟩:=h
 refine(rtimes_c w k v L s N d hk h hL).mono ?_
 rintro e' w' ⟨x,rfl,hx,hb⟩
 exact⟨x,rfl,⟨_,_,hx,sgn_mul k N s⟩,hb⟩
theorem exact_v(w:World)(N D:Int)(hN: -4611686018427387904<=N∧N<=4611686018427387904)(hD:0<=D∧D<=4611686018427387904):
 Calls Tryz.prog 22 #[.agg #[.int .i64 N,.int .i64 D]] w fun e w'=>∃x,e=.returned x∧RatV w' x 3 N D∧Below w.heap.size w w':=by
 refine(exact_c w N D hN hD).mono ?_
 rintro e' w' ⟨x,rfl,hx,hb⟩
 exact⟨x,rfl,⟨_,_,hx,sgn_nat N⟩,hb⟩
theorem whole_v(w:World)(n:Int)(hN: -4611686018427387904<=n∧n<=4611686018427387904):
 Calls Tryz.prog 91 #[.int .i64 n] w fun e w'=>∃x,e=.returned x∧RatV w' x 3 n 1∧Below w.heap.size w w':=by
 refine(nwhole_c w n hN).mono ?_
 rintro e' w' ⟨x,rfl,hx,hb⟩
 exact⟨x,rfl,⟨_,_,hx,sgn_nat n⟩,hb⟩
theorem rorder_v(w:World)(v u:Value)(L K:Nat)(n d m e:Int)(h:RatV w v L n d)(k:RatV w u K m e)(hL:L<=100)(hK:K<=97):
 Calls Tryz.prog 21 #[v,u] w fun e' w'=>e'=.returned (.int .i64 (cmpI (n*e) (m*d)))∧Below w.heap.size w w':=by
 obtain⟨s,N,h,rfl⟩:=h
 obtain⟨t,M,k,rfl⟩:=k
 exact rorder_c w v u L K s t N d M e h k hL hK
def RatIn(w:World)(g L:Nat)(n d:Int):Prop:=∃s a k c b m e,w.heap[g]? =some (.cells #[.bool s,.slice a k c,.slice b m e] 37 (0,0))∧RatV w (.agg #[.bool s,.slice a k c,.slice b m e]) L n d
theorem RatIn.le{w:World}{g L K:Nat}{n d:Int}(h:RatIn w g L n d)(hk:L<=K):RatIn w g K n d:=by
 obtain⟨s,a,k,c,b,m,e,h1,h2⟩:=h
 exact⟨s,a,k,c,b,m,e,h1,h2.le hk⟩
def QBlk(w:World)(g:Nat):Prop:=∃s a k c b m e,w.heap[g]? =some (.cells #[.bool s,.slice a k c,.slice b m e] 37 (0,0))
theorem QBlk.store{w:World}{g:Nat}(h:QBlk w g){v:Value}{L:Nat}{n d:Int}(k:RatV w v L n d):
 ∃s a k c b m e,v=.agg #[.bool s,.slice a k c,.slice b m e]∧(∀o,o<3->∃u,w.cell? ⟨g,o,none⟩=some u)∧(∀o,w.frozen? ⟨g,o,none⟩=false)∧g<w.heap.size∧
  RatIn (((w.setCell ⟨g,0,none⟩ (.bool s)).setCell ⟨g,1,none⟩ (.slice a k c)).setCell ⟨g,2,none⟩ (.slice b m e)) g L n d∧
  RatV (((w.setCell ⟨g,0,none⟩ (.bool s)).setCell ⟨g,1,none⟩ (.slice a k c)).setCell ⟨g,2,none⟩ (.slice b m e)) (.agg #[.bool s,.slice a k c,.slice b m e]) L n d:=by
 obtain⟨s0,a0,k0,c0,b0,m0,e0,h1⟩:=h
 obtain⟨t,N,⟨a,k,c,b,m,e,rfl,hN,hD⟩,hv⟩:=k
 have hng:∃c,w.heap[g]? =some (.cells c 37 (0,0))∧∀x:Int,∀o:Nat,c[o]? ≠some (.int .i64 x):=
  ⟨_,h1,fun x o=>by match o with|0=>simp|1=>simp|2=>simp|o+3=>simp⟩
 have hr:RatV (((w.setCell ⟨g,0,none⟩ (.bool t)).setCell ⟨g,1,none⟩ (.slice a k c)).setCell ⟨g,2,none⟩ (.slice b m e)) (.agg #[.bool t,.slice a k c,.slice b m e]) L n d:=
  ⟨t,N,⟨_,_,_,_,_,_,rfl,hN.keeps3 hng,hD.keeps3 hng⟩,hv⟩
 refine⟨t,a,k,c,b,m,e,rfl,?_,fun o=>by simp[World.frozen?,h1],(yAB.1 h1).1,?_,hr⟩
 ·intro o ho
  match o with
  |0=>exact⟨_,by simp[World.cell?,h1];rfl⟩
  |1=>exact⟨_,by simp[World.cell?,h1];rfl⟩
  |2=>exact⟨_,by simp[World.cell?,h1];rfl⟩
  |o+3=>omega
 ·have h2:=zKM (zKM (zKM h1 0 (.bool t)) 1 (.slice a k c)) 2 (.slice b m e)
  exact⟨t,a,k,c,b,m,e,h2,hr⟩
theorem sees_c(w:World)(a a2:Option Addr)(n cap n2 cap2:Nat)(r:List Int)(x:List Rt)(hn:r.length=n)(hn2:x.length=n2)(hle:n<=n2)(hm:n<=10)(H:zAH w a r)(H2:zCB w a2 x)
 (hr:∀k,-1000000000000<=vec r k∧vec r k<=1000000000000)(hx:∀k,0<=(zAB x k).2∧(zAB x k).2<=1000000000000∧ -1000000000000<=(zAB x k).1∧(zAB x k).1<=1000000000000):
 Calls Tryz.prog 90 #[.slice a n cap,.slice a2 n2 cap2] w fun e w'=>∃v,e=.returned v∧RatV w' v 90 (sumR r x n).1 (sumR r x n).2∧Below w.heap.size w w':=by
 obtain⟨s0,hs⟩:=exq (w.heap.size)
 obtain⟨wa,hwa⟩:=exq (w.alloc (.cells #[.bool false,.slice none 0 0,.slice none 0 0] 37))
 have hba:Below w.heap.size w wa:=by rw[hwa];exact(Below.refl _ _).alloc (yAC _) _
 have q0:wa.heap[s0]? =some (.cells #[.bool false,.slice none 0 0,.slice none 0 0] 37 (0,0)):=by
  rw[hwa,hs];exact World.alloc_heap_new w _
 have hs1:s0<wa.heap.size:=(yAB.1 q0).1
 have HQ0:=hid (fun(Y:World) (hY:Below wa.heap.size wa Y)=>show QBlk Y s0 from⟨_,_,_,_,_,_,_,(hY.block s0 hs1).trans q0⟩)
 have HBA:=hid hba
 have HFIN:=hid (fun(Y:World) (hY:Below wa.heap.size wa Y) (x y z:Value)=>show Below w.heap.size w (((Y.setCell ⟨s0,0,none⟩ x).setCell ⟨s0,1,none⟩ y).setCell ⟨s0,2,none⟩ z)from
  zAE (zAE (zAE (zAA hba hY) (by omega) 0 x) (by omega) 1 y) (by omega) 2 z)
 have HRI:=hid (fun(X:World) (hX:Below wa.heap.size wa X)=>H.below (zAA hba hX))
 have HXI:=hid (fun(X:World) (hX:Below wa.heap.size wa X)=>H2.below (zAA hba hX))
 have HR:=hid hr
 have HX:=hid hx
 have HN:=hid hn
 have HN2:=hid hn2
 have HSZ:=hid (show sumR r x 0=(0,1)from rfl)
 have HSR:=hid (fun t=>show sumR r x (t+1)=if vec r t≠0 then((sumR r x t).1*(zAB x t).2+(sumR r x t).2*((zAB x t).1*vec r t),(sumR r x t).2*(zAB x t).2)else sumR r x t from rfl)
 clear hba q0 hs1 H H2 hr hx hn hn2
 go_enter Tryz.func90,Tryz.ntmps90
 go_wp2_with fail
 rw[<- hs,<- hwa]
 clear hs hwa
 go_wp2_with (go_at_call 91;refine(whole_v _ 0 (by decide)).mono ?_;rintro e w1 ⟨v1,rfl,hv1,hb1⟩;refine Stop.of ?_)
 refine Stop.go ?_
 obtain⟨ss,sa,sk,sc,sb,sm',se,rfl,_⟩:=hv1.agg
 have HV1:=hid hv1
 have HB1:=hid hb1
 clear hv1 hb1
 go_wp2_with fail
 obtain⟨wb,hwb⟩:=exq (w1.alloc (.cells #[.bool ss,.slice sa sk sc,.slice sb sm' se] 37))
 obtain⟨g,hg⟩:=exq (w1.heap.size)
 have hrb:RatIn wb g 3 0 1:=by
  rw[hwb,hg]
  exact⟨ss,sa,sk,sc,sb,sm',se,World.alloc_heap_new _ _,HV1.out.below ((Below.refl _ _).alloc (yAC _) _)⟩
 have hbb:Below wa.heap.size wa wb:=by rw[hwb];exact HB1.out.alloc HB1.out.size _
 have hgs:wa.heap.size<=g:=by rw[hg];exact HB1.out.size
 rw[<- hwb,<- hg]
 have HRB:=hid hrb
 have HBB:=hid hbb
 clear hwb hg hrb hbb HV1 HB1
 go_loopw [11] (fun i wr=>∃t:Nat,t<=n∧i=.int .i64 t∧RatIn wr g (3+7*t) (sumR r x t).1 (sumR r x t).2∧Below wa.heap.size wa wr) (fun i _=>n-(intOf i).toNat)
 case atStart=>exact⟨0,yAK _,rfl,by rw[HSZ.out];exact HRB.out,HBB.out⟩
 case round=>
  obtain⟨t,ht,rfl,hrr,hbr⟩:=hrel
  by_cases htl:t<n
  ·obtain⟨b6,o6,rfl,hb6,hc6⟩:=(HRI.out wr hbr) t (by rw[HN.out];exact htl)
   have hv6:r[t]?.getD 0=vec r t:=rfl
   rw[hv6]at hc6
   have hone:=HR.out t
   have hsr:=HSR.out t
   obtain⟨v,hv⟩:=exq (vec r t)
   rw[<- hv]at hc6 hsr hone
   have i1:(t:Int)<(n:Int):=by omega
   by_cases h0:v=0
   ·rw[if_neg (by simp[h0])]at hsr
    have hvb:(v !=0)=false:=by simp[h0]
    have HSX:=hid hsr
    have HRR:=hid hrr
    have HBR:=hid hbr
    clear hv6 hv hsr hrr hbr
    go_wp2
    refine⟨⟨t+1,by omega,by go_num,by rw[HSX.out];exact HRR.out.le (by omega),HBR.out⟩,by simp[intOf];omega⟩
   ·rw[if_pos h0]at hsr
    have hvb:(v !=0)=true:=by simp[h0]
    obtain⟨x1,x2,x3,x4⟩:=HX.out t
    have htx:t<x.length:=by rw[HN2.out];omega
    obtain⟨bx,ox,rfl,hbx,hx0,hx1⟩:=(HXI.out wr hbr) t htx
    have hxt:zAB x t=x[t]'htx:=by unfold zAB;rw[yAA htx];rfl
    rw[<- hxt]at hx0 hx1
    have HSX:=hid hsr
    obtain⟨⟨N,D⟩,hND⟩:∃q,q=zAB x t:=⟨_,rfl⟩
    rw[<- hND]at hx0 hx1 x1 x2 x3 x4 HSX
    obtain⟨⟨sn,sd⟩,hS⟩:∃q,q=sumR r x t:=⟨_,rfl⟩
    rw[<- hS]at hrr HSX
    simp only[]at hx0 hx1 x1 x2 x3 x4 HSX hrr
    obtain⟨us,ua,uk,uc,ub,um,ue,hgb,hrv⟩:=hrr
    have hglt:=(yAB.1 hgb).1
    have HQB:=hid (fun(X:World) (hX:Below wr.heap.size wr X)=>show QBlk X g from⟨us,ua,uk,uc,ub,um,ue,(hX.block g hglt).trans hgb⟩)
    have HRV:=hid (fun(X:World) (hX:Below wr.heap.size wr X)=>hrv.below hX)
    have HS:=hid (fun(X:World) (hX:Below wr.heap.size wr X)=>show X.cell? ⟨g,0,none⟩=some (.bool us)∧X.cell? ⟨g,1,none⟩=some (.slice ua uk uc)∧X.cell? ⟨g,2,none⟩=some (.slice ub um ue)∧X.cell? ⟨bx,ox+t*2,none⟩=some (.int .i64 N)∧X.cell? ⟨bx,ox+t*2+1,none⟩=some (.int .i64 D)from by
     have h1:=(hX.block g hglt).trans hgb
     exact⟨by simp[World.cell?,h1],by simp[World.cell?,h1],by simp[World.cell?,h1],(hX.cell (p:=⟨bx,_,none⟩) hbx).trans hx0,(hX.cell (p:=⟨bx,_,none⟩) hbx).trans hx1⟩)
    have htl2:(t:Int)<(n2:Int):=by omega
    have HBR:=hid hbr
    have HV:=hid hone
    have hN1: -4611686018427387904<=N∧N<=4611686018427387904:=by omega
    have hD1:0<=D∧D<=4611686018427387904:=by omega
    have HN1:=hid hN1
    have HD1:=hid hD1
    have htn:t<10:=by omega
    clear hv6 hv hsr hbr x1 x2 x3 x4 hND hS hx0 hx1 hxt hgb hrv hone hN1 hD1
    go_wp2
    refine zAG (fun j' X=>decide (j'<=8)=true->X.cell? ⟨g,0,none⟩=some (.bool us)∧X.cell? ⟨g,1,none⟩=some (.slice ua uk uc)∧X.cell? ⟨g,2,none⟩=some (.slice ub um ue)∧X.cell? ⟨bx,ox+t*2,none⟩=some (.int .i64 N)∧X.cell? ⟨bx,ox+t*2+1,none⟩=some (.int .i64 D)) (by kernel_rfl) ?_
    have hbd:Below wr.heap.size wr wr.drew:=(Below.refl _ _).drew
    generalize wr.drew=wd at hbd⊢
    refine AnyT.tD (i:=0) (v:=.agg #[.bool us,.slice ua uk uc,.slice ub um ue]) rfl rfl (by rintro w' ⟨y1,y2,y3,y4,y5⟩;go_simp) (HS.out _ hbd) ?_;go_frame
    refine AnyT.tD (i:=1) (v:=.int .i64 v) rfl rfl (by rintro w' ⟨y1,y2,y3,y4,y5⟩;go_simp) (HS.out _ hbd) ?_;go_frame
    refine AnyT.tD (i:=2) (v:=.slice (some ⟨bx,ox,none⟩) n2 cap2) rfl rfl (by rintro w' ⟨y1,y2,y3,y4,y5⟩;go_simp) (HS.out _ hbd) ?_;go_frame
    refine AnyT.tD (i:=3) (v:=.int .i64 t) rfl rfl (by rintro w' ⟨y1,y2,y3,y4,y5⟩;go_simp) (HS.out _ hbd) ?_;go_frame
    refine AnyT.tD (i:=4) (v:=.pointer (some ⟨bx,ox+t*2,none⟩)) rfl rfl (by rintro w' ⟨y1,y2,y3,y4,y5⟩;go_simp) (HS.out _ hbd) ?_;go_frame
    refine AnyT.tD (i:=5) (v:=.agg #[.int .i64 N,.int .i64 D]) rfl rfl (by rintro w' ⟨y1,y2,y3,y4,y5⟩;go_simp) (HS.out _ hbd) ?_;go_frame
    refine AnyT.nx (i:=6) rfl ?_
    go_wp2_with (go_at_call 22;refine(exact_v _ N D HN1.out HD1.out).mono ?_;rintro e w4 ⟨v4,rfl,hv4,hb4⟩;refine Stop.of ?_)
    refine Stop.go ?_
    obtain⟨ps,pa,pk,pc,pb,pm,pe,rfl,_⟩:=hv4.agg
    have HB4:=hid (zAA hbd hb4)
    have HV4:=hid hv4
    clear hv4 hb4
    go_wp2
    refine⟨fun _=>HS.out _ HB4.out,?_⟩
    refine AnyT.nx (i:=7) rfl ?_
    go_wp2_with (go_at_call 23;refine(rtimes_v _ v _ 3 N D (by have:=HV.out;omega) HV4.out (by omega)).mono ?_;rintro e w5 ⟨v5,rfl,hv5,hb5⟩;refine Stop.of ?_)
    refine Stop.go ?_
    obtain⟨qs,qa,qk,qc,qb,qm,qe,rfl,_⟩:=hv5.agg
    have HB5:=hid (zAA HB4.out hb5)
    have HV5:=hid hv5
    clear hv5 hb5 HV4
    go_wp2
    refine⟨fun _=>HS.out _ HB5.out,?_⟩
    refine AnyT.nx (i:=8) rfl ?_
    go_wp2_with (go_at_call 24;refine(rplus_v _ _ _ (3+7*t) (3+3) sn sd (v*N) D (HRV.out _ HB5.out) HV5.out (by omega) (by omega)).mono ?_;rintro e w6 ⟨v6,rfl,hv6,hb6⟩;refine Stop.of ?_)
    refine Stop.go ?_
    obtain⟨zs,za,zk,zc,zb,zm,ze,e6,hcl,hfz,hlt,hin,_⟩:=(HQB.out _ (zAA HB5.out hb6)).store hv6
    subst e6
    have HB6:=hid (zAA HBR.out (zAA HB5.out hb6))
    have HB7:=hid (zAA HB5.out hb6)
    obtain⟨u0,x0⟩:=hcl 0 (by omega)
    obtain⟨u1,x1⟩:=hcl 1 (by omega)
    obtain⟨u2,x2⟩:=hcl 2 (by omega)
    have f0:=hfz 0
    have f1:=hfz 1
    have f2:=hfz 2
    have HIN:=hid (hin.le (show 3+7*t+(3+3)+1<=3+7*(t+1)by omega))
    have HBE:=hid (show Below wa.heap.size wa (((w6.setCell ⟨g,0,none⟩ (.bool zs)).setCell ⟨g,1,none⟩ (.slice za zk zc)).setCell ⟨g,2,none⟩ (.slice zb zm ze))from zAE (zAE (zAE HB6.out hgs 0 _) hgs 1 _) hgs 2 _)
    clear hcl hfz hin hv6 hb6 HV5
    go_wp2
    refine⟨fun _=>HS.out _ HB7.out,?_⟩
    refine AnyT.nx (i:=9) rfl ?_
    go_wp2
    refine⟨fun h=>absurd h (by decide),?_⟩
    refine AnyT.done (by kernel_rfl) ?_ _
    go_wp2
    refine⟨⟨t+1,by omega,by go_num,?_,HBE.out⟩,by simp[intOf];omega⟩
    rw[HSX.out]
    have hin:=HIN.out
    have e1:v*N*sd=sd*(N*v):=by rw[yBV v N,yBV]
    rw[e1]at hin
    exact hin
  ·obtain rfl:t=n:=by omega
   have hni:¬(t:Int)<(t:Int):=by omega
   obtain⟨us,ua,uk,uc,ub,um,ue,hgb,hrv⟩:=hrr
   obtain⟨zs,za,zk,zc,zb,zm,ze,e6,hcl,hfz,hlt,hin,hout⟩:=(HQ0.out _ hbr).store hrv
   cases e6
   obtain⟨u0,x0⟩:=hcl 0 (by omega)
   obtain⟨u1,x1⟩:=hcl 1 (by omega)
   obtain⟨u2,x2⟩:=hcl 2 (by omega)
   have f0:=hfz 0
   have f1:=hfz 1
   have f2:=hfz 2
   have g0:wr.cell? ⟨g,0,none⟩=some (.bool us):=by simp[World.cell?,hgb]
   have g1:wr.cell? ⟨g,1,none⟩=some (.slice ua uk uc):=by simp[World.cell?,hgb]
   have g2:wr.cell? ⟨g,2,none⟩=some (.slice ub um ue):=by simp[World.cell?,hgb]
   have HOUT:=hid (hout.le (show 3+7*t<=90 by omega))
   have HFI:=hid (HFIN.out _ hbr (.bool us) (.slice ua uk uc) (.slice ub um ue))
   clear hcl hfz hin hout hrv hbr hgb
   go_wp2
   refine bodyPost_ret (v:=.agg #[.bool us,.slice ua uk uc,.slice ub um ue]) ?_ rfl ⟨_,rfl,HOUT.out,HFI.out⟩
   simp[results,Tryz.results90,go_sem,x0,x1,x2,f0,f1,f2,hlt]
end
section
open Go.RowKit
theorem r3validR_c(w:World)(N D:Int):Calls Tryz.prog 156 #[.agg #[.int .i64 N,.int .i64 D]] w fun e w'=>e=.returned (.bool (zAL (N,D)))∧Below w.heap.size w w':=by
 obtain⟨wz,hwz⟩:=exq (w.alloc (.cells #[.int .i64 N,.int .i64 D] 29))
 have hbz:Below w.heap.size w wz:=by rw[hwz];exact(Below.refl _ _).alloc (yAC _) _
 have l0:wz.cell? ⟨w.heap.size,0,none⟩=some (.int .i64 N):=by rw[hwz,World.cell?_alloc_at _ _ _ _ rfl];rfl
 have l1:wz.cell? ⟨w.heap.size,1,none⟩=some (.int .i64 D):=by rw[hwz,World.cell?_alloc_at _ _ _ _ rfl];rfl
 have HBZ:=hid hbz
 have HV:=hid (show zAL (N,D)=(decide (1<=D)&&(decide (D<=400)&&(decide (-10000000000<=N)&&(decide (N<=10000000000)&&decide (Int.gcd N D=1)))))from rfl)
 have HW1:=hid (fun(X:World)=>zHY D 1 400 X)
 have HW2:=hid (fun(X:World)=>zHY N (-10000000000) 10000000000 X)
 clear hbz
 by_cases h1:1<=D∧D<=400
 ·have e1:inB D 1 400=true:=by simp[inB,h1.1,h1.2]
  rw[e1]at HW1
  by_cases h3: -10000000000<=N∧N<=10000000000
  ·have e2:inB N (-10000000000) 10000000000=true:=by simp[inB,h3.1,h3.2]
   rw[e2]at HW2
   have HD:=hid (fun X=>zGN X N D (by omega) (by omega))
   obtain⟨g,hg⟩:∃g:Int,g=((Int.gcd N D:Nat):Int):=⟨_,rfl⟩
   rw[<- hg]at HD
   have HB:=hid (show zAL (N,D)=(g==1)from by
    rw[HV.out,decide_eq_true h1.1,decide_eq_true h1.2,decide_eq_true h3.1,decide_eq_true h3.2]
    simp only[Bool.true_and]
    rw[Bool.eq_iff_iff,decide_eq_true_iff]
    simp only[beq_iff_eq]
    omega)
   clear hg HV e1 e2 h1 h3
   go_enter Tryz.func156,Tryz.ntmps156
   go_wp2_with fail
   rw[<- hwz]
   clear hwz
   go_wp2_with (go_at_call 174;refine(HW1.out _).mono ?_;rintro e w2 ⟨rfl,rfl⟩;refine Stop.of ?_)
   refine Stop.go ?_
   go_wp2_with (go_at_call 174;refine(HW2.out _).mono ?_;rintro e w2 ⟨rfl,rfl⟩;refine Stop.of ?_)
   refine Stop.go ?_
   go_wp2_with (go_at_call 211;refine(HD.out _).mono ?_;rintro e w2 ⟨rfl,k2,rfl⟩;refine Stop.of ?_)
   refine Stop.go ?_
   go_wp2
   go_ret
   exact⟨zAP (by rw[HB.out]),zAI HBZ.out k2⟩
  ·have e2:inB N (-10000000000) 10000000000=false:=by
    rw[inB,Bool.and_eq_false_iff,decide_eq_false_iff_not,decide_eq_false_iff_not];omega
   rw[e2]at HW2
   have HB:=hid (show zAL (N,D)=false from by
    cases h:zAL (N,D)with
    |false=>rfl
    |true=>have:=zAR.1 h;exact absurd ⟨this.2.2.1,this.2.2.2.1⟩ h3)
   clear HV e1 e2 h1 h3
   go_enter Tryz.func156,Tryz.ntmps156
   go_wp2_with fail
   rw[<- hwz]
   clear hwz
   go_wp2_with (go_at_call 174;refine(HW1.out _).mono ?_;rintro e w2 ⟨rfl,rfl⟩;refine Stop.of ?_)
   refine Stop.go ?_
   go_wp2_with (go_at_call 174;refine(HW2.out _).mono ?_;rintro e w2 ⟨rfl,rfl⟩;refine Stop.of ?_)
   refine Stop.go ?_
   go_wp2
   go_ret
   exact⟨zAP (by rw[HB.out]),HBZ.out⟩
 ·have e1:inB D 1 400=false:=by
   rw[inB,Bool.and_eq_false_iff,decide_eq_false_iff_not,decide_eq_false_iff_not];omega
  rw[e1]at HW1
  have HB:=hid (show zAL (N,D)=false from by
   cases h:zAL (N,D)with
   |false=>rfl
   |true=>have:=zAR.1 h;exact absurd ⟨this.1,this.2.1⟩ h1)
  clear HV e1 h1 HW2
  go_enter Tryz.func156,Tryz.ntmps156
  go_wp2_with fail
  rw[<- hwz]
  clear hwz
  go_wp2_with (go_at_call 174;refine(HW1.out _).mono ?_;rintro e w2 ⟨rfl,rfl⟩;refine Stop.of ?_)
  refine Stop.go ?_
  go_wp2
  go_ret
  exact⟨zAP (by rw[HB.out]),HBZ.out⟩
theorem r3validRs_c(w:World)(a:Option Addr)(n cap:Nat)(l:List Rt)(hn:l.length=n)(hm:n<=maxLen)(H:zCB w a l):
 Calls Tryz.prog 85 #[.slice a n cap] w fun e w'=>e=.returned (.bool (l.all zAL))∧Below w.heap.size w w':=by
 have HN:=hid hn
 have HH:=hid H
 have HP:=hid (fun(X:World) (N D:Int)=>r3validR_c X N D)
 have HST:=hid (fun(k:Nat) (hk:k<l.length) (h:zAL l[k]=false)=>zIH (p:=zAL) hk h)
 have HDN:=hid (fun(h:∀j (hj:j<l.length),zAL l[j]=true)=>zKB (p:=zAL) h)
 obtain⟨B,hB⟩:=exq (l.all zAL)
 rw[<- hB]at HST HDN⊢
 clear hn H hB
 unfold maxLen at hm
 go_enter Tryz.func85,Tryz.ntmps85
 go_wp2
 go_loopw [7] (fun i wr=>∃k:Nat,k<=n∧i=.int .i64 k∧Below w.heap.size w wr∧Hid (∀j (hj:j<l.length),j<k->zAL l[j]=true)) (fun i _=>n-(intOf i).toNat)
 case atStart=>exact⟨0,yAK _,rfl,Below.refl _ _,hid (fun i y h=>by omega)⟩
 case round=>
  obtain⟨k,hk,rfl,hb,HNO⟩:=hrel
  by_cases hlt:k<n
  ·have hkl:k<l.length:=by rw[HN.out];exact hlt
   obtain⟨b,off,rfl,hbs,h0,h1⟩:=(HH.out.below hb) k hkl
   have HSK:=hid (HST.out k hkl)
   have HNX:=hid (fun(h:zAL l[k]=true)=>show ∀j (hj:j<l.length),j<k+1->zAL l[j]=true from fun j hj hjk=>by
    by_cases e:j=k
    ·subst e;exact h
    ·exact HNO.out j hj (by omega))
   obtain⟨⟨r1,r2⟩,hr⟩:∃r,r=l[k]'hkl:=⟨_,rfl⟩
   rw[<- hr]at h0 h1 HSK HNX
   simp only[]at h0 h1
   obtain⟨V,hV⟩:=exq (zAL (r1,r2))
   have HC:=hid (fun(X:World)=>HP.out X r1 r2)
   rw[<- hV]at HC HSK HNX
   have HB:=hid hb
   clear hr hV hkl hb HNO
   have i1:(k:Int)<(n:Int):=by omega
   go_wp2_with (go_at_call 156;refine(HC.out _).mono ?_;rintro e w1 ⟨rfl,hb1⟩;refine Stop.of ?_)
   refine Stop.go ?_
   have HB1:=hid (show Below w.heap.size w w1 from HB.out.trans ((((Below.refl _ wr).alloc (yAC _) (.cells #[.int .i64 r1,.int .i64 r2] 29)).trans (hb1.mono (by simp))).mono HB.out.size))
   clear hb1 HC
   cases V
   ·obtain rfl:B=false:=HSK.out rfl
    go_wp2
    go_ret
    exact⟨rfl,HB1.out⟩
   ·have HX:=hid (HNX.out rfl)
    go_wp2
    exact⟨⟨k+1,by omega,by go_num,HB1.out,HX⟩,by simp[intOf];omega⟩
  ·obtain rfl:k=n:=by omega
   obtain rfl:B=true:=HDN.out fun j hj=>HNO.out j hj (by have:=HN.out;omega)
   go_wp2
   go_ret
   exact⟨rfl,hb⟩
theorem r3makes_c(w:World)(a a2 a3:Option Addr)(n cap n2 cap2 n3 cap3:Nat)(M:Mask)(x:List Rt)(y:List Int)(hn:M.length=n)(hn2:x.length=n2)(hn3:y.length=n3)(hm:n<=maxLen)(hm2:n2<=maxLen)(hm3:n3<=maxLen)(H:zAM w a M)(H2:zCB w a2 x)(H3:zAH w a3 y):
 Calls Tryz.prog 30 #[.slice a n cap,.slice a2 n2 cap2,.slice a3 n3 cap3] w fun e w'=>e=.returned (.bool (zDA M x y))∧Below w.heap.size w w':=by
 have HRD:=hid (r3Reading_c w a a3 n cap n3 cap3 M y hn hn3 hm hm3 H H3)
 have HN1:=hid (mk_no1 (M:=M) (x:=x) (y:=y))
 have HN2:=hid (mk_no2 (M:=M) (x:=x) (y:=y))
 have HN3:=hid (mk_no3 (M:=M) (x:=x) (y:=y))
 obtain⟨B,hB⟩:=exq (zDA M x y)
 rw[<- hB]at HN1 HN2 HN3⊢
 by_cases h0:rdE M y=0
 rotate_left
 ·rw[decide_eq_false h0]at HRD
  obtain rfl:B=false:=HN1.out h0
  clear hn hn2 hn3 H H2 H3 hB h0 HN2 HN3
  go_enter Tryz.func30,Tryz.ntmps30
  go_wp2_with (go_at_call 17;refine HRD.out.mono ?_;rintro e w1 ⟨rfl,rfl⟩)
  go_ret
  exact⟨rfl,Below.refl _ _⟩
 rw[decide_eq_true h0]at HRD
 obtain⟨hok,hyl,hmil⟩:=zOV h0
 obtain⟨hM,h1,h6,hc1,hc10⟩:=zCR hok
 obtain⟨b,off,ra,rc,rfl,hb,hc⟩:=zCT H (by omega)
 have HN4:=hid (fun i (hi:i<M.length) h=>mk_no4 (x:=x) (y:=y) hi h)
 have HYS:=hid (fun h2 h3 h4=>mk_yes (M:=M) (x:=x) (y:=y) h0 h2 h3 h4)
 rw[<- hB]at HYS HN4
 have i0:(0:Int)<(n:Int):=by omega
 have HCI:=hid (fun(X:World) (hX:Below w.heap.size w X)=>r3validRs_c X a2 n2 cap2 x hn2 hm2 (H2.below hX))
 have HRW:=hid (fun(X:World) (hX:Below w.heap.size w X)=>H.below hX)
 have HXI:=hid (fun(X:World) (hX:Below w.heap.size w X)=>H2.below hX)
 have HYI:=hid (fun(X:World) (hX:Below w.heap.size w X)=>H3.below hX)
 have HMW:=hid (show ∀r∈M,r.length=zAD M∧∀k,-1<=vec r k∧vec r k<=1 from fun r hr=>⟨hM.wid r hr,hM.one r hr⟩)
 have HYB:=hid (mil_le hmil)
 have HN:=hid hn
 have HNX:=hid hn2
 have HNY:=hid hn3
 have HHN:=hid (show n3=n by omega)
 have hn6:n<=6:=by omega
 obtain⟨W,hW⟩:=exq (zAD M)
 rw[<- hW]at hc HN2 HN4 HYS HMW hc10 hc1
 clear hn hn2 hn3 H H2 H3 hB h0 hok hyl hmil hM h1 h6 HN1 hW
 by_cases hlw:n2=W
 rotate_left
 ·obtain rfl:B=false:=HN2.out (by rw[HNX.out];exact hlw)
  have hlb:((n2:Int) !=(W:Int))=true:=by simp;omega
  clear HN3 HN4 HYS HCI HRW HXI HYI HMW HYB
  go_enter Tryz.func30,Tryz.ntmps30
  go_wp2_with (go_at_call 17;refine HRD.out.mono ?_;rintro e w1 ⟨rfl,rfl⟩;refine Stop.of ?_)
  refine Stop.go ?_
  go_wp2
  go_ret
  exact⟨rfl,Below.refl _ _⟩
 subst hlw
 have hlb:((n2:Int) !=(n2:Int))=false:=by simp
 obtain⟨V,hV⟩:=exq (x.all zAL)
 rw[<- hV]at HCI
 have HVV:=hid hV.symm
 have HCI1:=hid (HCI.out _ (Below.refl _ _))
 clear hV HCI
 go_enter Tryz.func30,Tryz.ntmps30
 go_wp2_with (go_at_call 17;refine HRD.out.mono ?_;rintro e w1 ⟨rfl,rfl⟩;refine Stop.of ?_)
 refine Stop.go ?_
 go_wp2_with (go_at_call 85;refine HCI1.out.mono ?_;rintro e w2 ⟨rfl,hb2⟩;refine Stop.of ?_)
 refine Stop.go ?_
 have HB2:=hid hb2
 clear hb2 HCI1 hc HRD
 cases V
 ·obtain rfl:B=false:=HN3.out HVV.out
  go_wp2
  go_ret
  exact⟨rfl,HB2.out⟩
 ·have hall:x.all zAL=true:=HVV.out
  have hxv:∀k,1<=(zAB x k).2∧(zAB x k).2<=400∧ -10000000000<=(zAB x k).1∧(zAB x k).1<=10000000000:=fun k=>by
   unfold zAB
   cases e:x[k]? with
   |none=>decide
   |some r=>
    have:=yAT.1 hall r (yBM e)
    rw[zAR]at this
    exact⟨this.1,this.2.1,this.2.2.1,this.2.2.2.1⟩
  have HXV:=hid hxv
  have HYS2:=hid (HYS.out HNX.out hall)
  clear hall hxv HN2 HN3 HYS HVV
  go_wp2
  go_loopw [29] (fun i wr=>∃k:Nat,k<=n∧i=.int .i64 k∧Below w.heap.size w wr∧Hid (∀q,q<k->(sumR (M[q]?.getD []) x n2).1=(sumR (M[q]?.getD []) x n2).2*vec y q)) (fun i _=>n-(intOf i).toNat)
  case atStart=>exact⟨0,yAK _,rfl,HB2.out,hid (fun q h=>by omega)⟩
  case round=>
   obtain⟨k,hk,rfl,hbk,HQ⟩:=hrel
   by_cases hlt:k<n
   ·have hkM:k<M.length:=by rw[HN.out];exact hlt
    obtain⟨b5,o5,ra5,rn5,rc5,e5,hb5,hc5,hrn5,hrm5,hri5⟩:=(HRW.out wr hbk) k hkM
    cases e5
    obtain⟨hwid,hone⟩:=HMW.out _ (yAH hkM)
    obtain rfl:rn5=n2:=by omega
    have hrowe:M[k]?.getD []=M[k]:=by rw[yAA hkM];rfl
    have HNK:=hid (HN4.out k hkM)
    rw[hrowe]at HNK
    have HQX:=hid (fun(h:(sumR M[k] x rn5).1=(sumR M[k] x rn5).2*vec y k)=>show ∀q,q<k+1->(sumR (M[q]?.getD []) x rn5).1=(sumR (M[q]?.getD []) x rn5).2*vec y q from fun q hq=>by
     rcases yAP q k with h3|h3
     ·exact HQ.out q h3
     ·obtain rfl:q=k:=by omega
      rw[hrowe];exact h)
    have HSE:=hid (fun(X:World) (hX:Below wr.heap.size wr X)=>sees_c X ra5 a2 rn5 rc5 rn5 cap2 M[k] x hrn5 HNX.out (yAC _) (by omega) (hri5.below hX) (HXI.out X (zAA hbk hX)) (fun j=>by have:=hone j;omega) (fun j=>by have:=HXV.out j;omega))
    have hkY:k<y.length:=by rw[HNY.out,HHN.out];exact hlt
    obtain⟨by7,oy7,rfl,hby,hcy⟩:=(HYI.out wr hbk) k hkY
    have hvy:y[k]?.getD 0=vec y k:=rfl
    rw[hvy]at hcy
    have hyb:=zDY (P:=fun z=> -1000000<=z∧z<=1000000) (by decide) HYB.out k
    obtain⟨yv,hyv⟩:=exq (vec y k)
    rw[<- hyv]at hcy hyb HNK HQX
    obtain⟨⟨sn,sd⟩,hS⟩:∃q,q=sumR M[k] x rn5:=⟨_,rfl⟩
    rw[<- hS]at HNK HQX HSE
    simp only[]at HNK HQX HSE
    have HWH:=hid (fun(X:World)=>whole_v X yv (by omega))
    obtain⟨cv,hcv⟩:=exq (cmpI sn (yv*sd))
    have HCZ:=hid (show(cv=0↔sn=sd*yv)from by rw[hcv,yBV yv sd];unfold cmpI;split<;>(try split)<;>omega)
    have HOR:=hid (fun(X:World) (v u:Value) (h:RatV X v 90 sn sd) (k:RatV X u 3 yv 1)=>show Calls Tryz.prog 21 #[v,u] X (fun e' w'=>e'=.returned (.int .i64 cv)∧Below X.heap.size X w')from by
     have:=rorder_v X v u 90 3 sn sd yv 1 h k (by omega) (by omega)
     rwa [Int.mul_one,<- hcv]at this)
    have HS:=hid (fun(X:World) (hX:Below wr.heap.size wr X)=>show X.cell? ⟨by7,oy7+k,none⟩=some (.int .i64 yv)from(hX.cell (p:=⟨by7,_,none⟩) hby).trans hcy)
    have HBK:=hid hbk
    have i1:(k:Int)<(n:Int):=by omega
    have i3:(k:Int)<(n3:Int):=by have:=HHN.out;omega
    clear hrowe hri5 hrn5 hkM hone hwid hbk HN4 HQ hS hyv hkY hvy hyb hcv hcy
    go_wp2
    refine zAG (fun j' X=>wAll j'=true->X.cell? ⟨by7,oy7+k,none⟩=some (.int .i64 yv)) (by kernel_rfl) ?_
    have hbd:Below wr.heap.size wr wr.drew:=(Below.refl _ _).drew
    generalize wr.drew=wd at hbd⊢
    refine AnyT.tD (i:=0) (v:=.slice ra5 rn5 rc5) rfl rfl (by rintro w' y1;go_simp) (HS.out _ hbd) ?_;go_frame
    refine AnyT.tD (i:=1) (v:=.slice a2 rn5 cap2) rfl rfl (by rintro w' y1;go_simp) (HS.out _ hbd) ?_;go_frame
    refine AnyT.tD (i:=3) (v:=.slice (some ⟨by7,oy7,none⟩) n3 cap3) rfl rfl (by rintro w' y1;go_simp) (HS.out _ hbd) ?_;go_frame
    refine AnyT.tD (i:=4) (v:=.int .i64 k) rfl rfl (by rintro w' y1;go_simp) (HS.out _ hbd) ?_;go_frame
    refine AnyT.tD (i:=5) (v:=.pointer (some ⟨by7,oy7+k,none⟩)) rfl rfl (by rintro w' y1;go_simp) (HS.out _ hbd) ?_;go_frame
    refine AnyT.tD (i:=6) (v:=.int .i64 yv) rfl rfl (by rintro w' y1;go_simp) (HS.out _ hbd) ?_;go_frame
    refine AnyT.nx (i:=2) rfl ?_
    go_wp2_with (go_at_call 90;refine(HSE.out _ hbd).mono ?_;rintro e w4 ⟨v4,rfl,hv4,hb4⟩;refine Stop.of ?_)
    refine Stop.go ?_
    have HB4:=hid (zAA hbd hb4)
    have HV4:=hid hv4
    clear hv4 hb4 HSE
    go_wp2
    refine⟨fun _=>HS.out _ HB4.out,?_⟩
    refine AnyT.nx (i:=7) rfl ?_
    go_wp2_with (go_at_call 91;refine(HWH.out _).mono ?_;rintro e w5 ⟨v5,rfl,hv5,hb5⟩;refine Stop.of ?_)
    refine Stop.go ?_
    have HB5:=hid (zAA HB4.out hb5)
    have HV5:=hid hv5
    have HV6:=hid (HV4.out.below hb5)
    clear hv5 hb5 HWH HV4
    go_wp2
    refine⟨fun _=>HS.out _ HB5.out,?_⟩
    refine AnyT.nx (i:=8) rfl ?_
    go_wp2_with (go_at_call 21;refine(HOR.out _ _ _ HV6.out HV5.out).mono ?_;rintro e w6 ⟨rfl,hb6⟩;refine Stop.of ?_)
    refine Stop.go ?_
    have HB6:=hid (zAA HBK.out (zAA HB5.out hb6))
    have HS6:=hid (HS.out _ (zAA HB5.out hb6))
    clear hb6 HV5 HV6
    go_wp2
    refine⟨fun _=>HS6.out,?_⟩
    refine AnyT.nx (i:=9) rfl ?_
    go_wp2
    refine⟨fun _=>HS6.out,?_⟩
    refine AnyT.done (by kernel_rfl) ?_ _
    by_cases hc0:cv=0
    ·have hcb:(cv !=0)=false:=by simp[hc0]
     have HX:=hid (HQX.out (HCZ.out.1 hc0))
     go_wp2
     exact⟨⟨k+1,by omega,by go_num,HB6.out,HX⟩,by simp[intOf];omega⟩
    ·have hcb:(cv !=0)=true:=by simp[hc0]
     obtain rfl:B=false:=HNK.out (fun h=>hc0 (HCZ.out.2 h))
     go_wp2
     go_ret
     exact⟨rfl,HB6.out⟩
   ·obtain rfl:k=n:=by omega
    obtain rfl:B=true:=HYS2.out (fun i hi=>HQ.out i (by have:=HN.out;omega))
    go_wp2
    go_ret
    exact⟨rfl,hbk⟩
end
section
open Go.ChangeShapes Go.WideShapes Go.ChangeAt Go.RowKit Go.Deep
def zFN(n:Int):Prop:= -9223372036854775808<=n∧n<=9223372036854775807
theorem fits64{n:Int}(h:(Lit.int .i64 n).wf=true):zFN n:=by
 simpa[zFN,Lit.wf,IntKind.min,IntKind.max,IntKind.signed,IntKind.bits]using h
theorem zLD{w:World}{a:Addr}{v:Value}(h:w.cell? a=some v):a=⟨a.block,a.off,none⟩∧a.block<w.heap.size:=by
 unfold World.cell? at h
 split at h
 ·rename_i c _ _ hb
  obtain⟨b,o,s⟩:=a
  cases s with
  |none=>exact⟨rfl,(yAB.1 hb).1⟩
  |some s=>simp at h
 ·simp at h
theorem zKC(b o:Nat)(i:Nat):(Addr.mk b o none).add i=⟨b,o+i,none⟩:=by
 unfold Addr.add
 split
 ·rename_i h;rw[h];rfl
 ·rfl
section
variable {H:Type} {enc:TypeId×Value->H} {P:Program} {w:World} {base:Nat} {held:Bool}
theorem zNT{e q:TypeId}{fuel:Nat}{a:Option Addr}{n cap:Nat}{x:DataW H×List MemPlace}(he:P.underlying e=some (.slice q))(hq:P.underlying q=some (.int .i64))(cq:P.cellsOf q=1)
 (h:DataW.trod enc P w base (fun _=>true) held fuel e [.slice a n cap]=some x):∃l:List Int,l.length=n∧n<=maxLen∧zAH w a l∧∀y∈l,zFN y:=by
 rcases open_ints he hq cq h with⟨hcs,_⟩|⟨x,l,c,zs,hcs,_,hl,hm,hz,_,hcell,hwz⟩
 ·simp at hcs
  obtain⟨rfl,rfl,rfl⟩:=hcs
  exact⟨[],rfl,by decide,fun j hj=>by simp at hj,fun y hy=>by simp at hy⟩
 ·simp at hcs
  obtain⟨rfl,rfl,rfl⟩:=hcs
  simp only[if_true]at hz
  refine⟨zs.take n,by rw[yAU];omega,by omega,fun j hj=>?_,fun y hy=>fits64 (hwz y (yEP hy))⟩
  rw[yAU]at hj
  have h0:=zLD (hcell 0 (by omega))
  simp only[Addr.add,if_true]at h0
  obtain⟨b,o,s⟩:=x
  have hs:s=none:=by have:=h0.1;simp at this;exact this
  subst hs
  refine⟨b,o,rfl,h0.2,?_⟩
  have:=hcell j (by omega)
  rw[zKC]at this
  rw[this]
  simp[List.getElem?_take,show j<n by omega,List.getD]
theorem arg_ints{r:Reach}{b0:Nat}{e q:TypeId}{v:Value}{d:DataW H}{p:List MemPlace}(he:P.underlying e=some (.slice q))(hq:P.underlying q=some (.int .i64))(cq:P.cellsOf q=1)
 (hv:Value.okWide P w r b0 e v)(h:DataW.Trod enc P w base (fun _=>true) held e v d p):∃a n cap,∃l:List Int,v=.slice a n cap∧l.length=n∧n<=maxLen∧zAH w a l∧∀y∈l,zFN y:=by
 obtain⟨a,n,cap,rfl⟩:=okWide_slice he hv
 obtain⟨fuel,hf⟩:=h
 obtain⟨l,h1,h2,h3,h4⟩:=zNT he hq cq (by simpa[Value.cells]using hf)
 exact⟨a,n,cap,l,rfl,h1,h2,h3,h4⟩
theorem arg_rows{r:Reach}{b0:Nat}{t e q:TypeId}{v:Value}{d:DataW H}{p:List MemPlace}(ht:P.underlying t=some (.slice e))(ce:P.cellsOf e=1)(he:P.underlying e=some (.slice q))(hq:P.underlying q=some (.int .i64))(cq:P.cellsOf q=1)
 (hv:Value.okWide P w r b0 t v)(h:DataW.Trod enc P w base (fun _=>true) held t v d p):∃a n cap,∃l:List (List Int),v=.slice a n cap∧l.length=n∧n<=maxLen∧zAM w a l∧∀y∈l,∀z∈y,zFN z:=by
 obtain⟨a,n,cap,rfl⟩:=okWide_slice ht hv
 obtain⟨fuel,hf⟩:=h
 rcases open_slice1 ht ce (by simpa[Value.cells]using hf)with⟨hcs,_⟩|⟨x,len,c',m,nn,V,D,Pl,hcs,_,hl,hm,hmm,_,hx⟩
 ·simp at hcs
  obtain⟨rfl,rfl,rfl⟩:=hcs
  exact⟨none,0,0,[],rfl,rfl,by decide,fun j hj=>by simp at hj,fun y hy=>by simp at hy⟩
 simp at hcs
 obtain⟨rfl,rfl,rfl⟩:=hcs
 simp only[if_true]at hmm
 have each:∀i,i<n->∃y:List Int×Option Addr×Nat×Nat,w.cell? (x.add i)=some (.slice y.2.1 y.2.2.1 y.2.2.2)∧y.1.length=y.2.2.1∧y.2.2.1<=maxLen∧zAH w y.2.1 y.1∧(∀z∈y.1,zFN z):=by
  intro i hi
  obtain⟨hc,t0⟩:=hx i (by omega)
  have hsl:∃ra rn rc,V i=.slice ra rn rc:=by
   rcases open_ints he hq cq t0 with⟨hcs,_⟩|⟨x,l,c,zs,hcs,_⟩
   ·simp at hcs;exact⟨_,_,_,hcs⟩
   ·simp at hcs;exact⟨_,_,_,hcs⟩
  obtain⟨ra,rn,rc,hV⟩:=hsl
  rw[hV]at hc t0
  obtain⟨l,q1,q2,q3,q4⟩:=zNT he hq cq t0
  exact⟨(l,ra,rn,rc),hc,q1,q2,q3,q4⟩
 haveI:Inhabited (List Int×Option Addr×Nat×Nat):=⟨([],none,0,0)⟩
 obtain⟨y,hy⟩:=choose_lt each
 refine⟨some x,n,cap,(List.range n).map fun i=>(y i).1,rfl,by simp,by omega,fun j hj=>?_,fun z hz=>?_⟩
 ·have hjn:j<n:=by simpa using hj
  have hp:=zLD (hy 0 (by omega)).1
  simp only[Addr.add,if_true]at hp
  obtain⟨b,o,s⟩:=x
  have hs':s=none:=by have:=hp.1;simp at this;exact this
  subst hs'
  obtain⟨r0,r3,r4,r5,r6⟩:=hy j hjn
  rw[zKC]at r0
  refine⟨b,o,(y j).2.1,(y j).2.2.1,(y j).2.2.2,rfl,hp.2,r0,?_,r4,?_⟩<;>simp only[yGG,yGS]<;>assumption
 ·obtain⟨i,hi,rfl⟩:=yBJ.1 hz
  exact(hy i (yCH.1 hi)).2.2.2.2
end
end
section
open Go.ChangeShapes Go.WideShapes Go.ChangeAt Go.RowKit Go.Deep
section
variable {H:Type} {enc:TypeId×Value->H} {P:Program} {w:World} {base:Nat} {held:Bool}
theorem arg_ratios{r:Reach}{b0:Nat}{t c:TypeId}{f0 f1:Field}{v:Value}{d:DataW H}{p:List MemPlace}(ht:P.underlying t=some (.slice c))(hs:P.underlying c=some (.struct #[f0,f1]))(hone:oneCellFields P #[f0,f1]=true)(hC:P.cellsOf c=2)
 (h0:P.underlying f0.type=some (.int .i64))(h1:P.underlying f1.type=some (.int .i64))
 (hv:Value.okWide P w r b0 t v)(h:DataW.Trod enc P w base (fun _=>true) held t v d p):∃a n cap,∃l:List Rt,v=.slice a n cap∧l.length=n∧n<=maxLen∧zCB w a l∧∀y∈l,zFN y.1∧zFN y.2:=by
 obtain⟨a,n,cap,rfl⟩:=okWide_slice ht hv
 obtain⟨fuel,hf⟩:=h
 rcases open_slice ht (by simpa[Value.cells]using hf)with⟨hcs,_⟩|⟨x,len,c',m,nn,D,Pl,hcs,_,hl,hm,hmm,_,hx⟩
 ·simp at hcs
  obtain⟨rfl,rfl,rfl⟩:=hcs
  exact⟨none,0,0,[],rfl,rfl,by decide,fun j hj=>by simp at hj,fun y hy=>by simp at hy⟩
 simp at hcs
 obtain⟨rfl,rfl,rfl⟩:=hcs
 simp only[if_true]at hmm
 obtain⟨o0,k0⟩:=hone_of hone 0 f0 rfl
 obtain⟨o1,k1⟩:=hone_of hone 1 f1 rfl
 have each:∀i,i<n->∃y:Rt,w.cell? (x.add (i*2))=some (.int .i64 y.1)∧w.cell? ((x.add (i*2)).add 1)=some (.int .i64 y.2)∧zFN y.1∧zFN y.2:=by
  intro i hi
  obtain⟨cs',hc,htr⟩:=hx i (by omega)
  rw[hC]at hc
  obtain⟨_,hlen,hcell⟩:=World.cells?_some hc
  match cs',hlen with
  | [c0,c1],_=>
    obtain⟨y0,y1,n',_,_,t0,t1⟩:=trod_struct2 hs htr
    rw[o0,k0]at t0
    rw[o1,k1]at t1
    simp at t0 t1
    obtain⟨z0,e0,_,w0⟩:=DataW.trod_int h0 t0
    obtain⟨z1,e1,_,w1⟩:=DataW.trod_int h1 t1
    simp at e0 e1
    subst e0;subst e1
    have hc0:=hcell 0 (by omega)
    rw[show(x.add (i*2)).add 0=x.add (i*2)from rfl]at hc0
    exact⟨(z0,z1),by simpa using hc0,by simpa using hcell 1 (by omega),fits64 w0,fits64 w1⟩
 haveI:Inhabited Rt:=⟨(0,0)⟩
 obtain⟨y,hy⟩:=choose_lt each
 refine⟨some x,n,cap,(List.range n).map fun i=>y i,rfl,by simp,by omega,fun j hj=>?_,fun z hz=>?_⟩
 ·have hjn:j<n:=by simpa using hj
  have hp:=zLD (hy 0 (by omega)).1
  simp only[Addr.add,Nat.zero_mul,if_true]at hp
  obtain⟨b,o,s⟩:=x
  have hs':s=none:=by have:=hp.1;simp at this;exact this
  subst hs'
  obtain⟨r0,r1,r2,r3⟩:=hy j hjn
  rw[zKC]at r0 r1
  rw[zKC]at r1
  refine⟨b,o,rfl,hp.2,?_,?_⟩<;>simp only[yGG,yGS]<;>assumption
 ·obtain⟨i,hi,rfl⟩:=yBJ.1 hz
  obtain⟨r0,r1,r2,r3⟩:=hy i (yCH.1 hi)
  exact⟨r2,r3⟩
end
end
section
namespace dualBright
open Go.RowKit
theorem closedF:joinedFacts Tryz.prog 12 Tryz.f12 Rows.dualBrightSpec Rows.dualBrightRow=true:=by
 unfold joinedFacts
 simp only[Bool.and_eq_true]
 repeat' apply And.intro
 all_goals (as_aux_lemma=>kernel_rfl)
end dualBright
end
end Go.Proofs.YtlffndehhhpgjaaGreat
