/- Walks and plain laws for DualNormsRow, part 6. -/
import Derived.Shelf.Bits.Mul64
import Derived.Shelf.Spec.BitsCarry
import Derived.Laws.Externs
import Derived.BigQuiet
import Derived.Test.YtlffndehhhpgjaaGreatPkDualNormsRow5
namespace Go.Proofs.YtlffndehhhpgjaaGreat
set_option linter.unusedVariables false
set_option linter.unusedSimpArgs false
set_option maxRecDepth 100000
set_option maxHeartbeats 4000000
section
section
open Go.RowKit Go.Lib
def zBL(V:Int):Value:=.agg #[.int .i64 (V/18446744073709551616),.int .u64 (V%18446744073709551616)]
def cmpI(V U:Int):Int:=if V<U then-1 else if V=U then 0 else 1
theorem size_c(w:World)(n:Int)(h: -9223372036854775808<=n∧n<=9223372036854775807):Calls Tryz.prog 210 #[.int .i64 n] w fun e w'=>e=.returned (.int .u64 (n.natAbs:Nat))∧w=w':=by
 obtain⟨m,hm⟩:∃m:Int,m=(n.natAbs:Nat):=⟨_,rfl⟩
 rw[<- hm]
 by_cases h0:n<0
 ·have h1:IntKind.u64.wrap n=18446744073709551616+n:=by rw[IntKind.wrap_u64];omega
  have h2:IntKind.u64.wrap (-(18446744073709551616+n))=m:=by rw[IntKind.wrap_u64];omega
  clear hm
  go_enter Tryz.func210,Tryz.ntmps210
  go_wp2
  go_ret
  exact⟨rfl,rfl⟩
 ·have h1:IntKind.u64.wrap n=m:=by rw[IntKind.wrap_u64];omega
  clear hm
  go_enter Tryz.func210,Tryz.ntmps210
  go_wp2
  go_ret
  exact⟨rfl,rfl⟩
theorem mul64_c(x y:Nat)(hx:x<18446744073709551616)(hy:y<18446744073709551616)(w:World):
 Calls Tryz.prog 209 #[.int .u64 x,.int .u64 y] w fun e w'=>e=.returned (.tuple #[.int .u64 ((x*y/18446744073709551616:Nat):Int),.int .u64 ((x*y%18446744073709551616:Nat):Int)])∧w=w':=by
 obtain⟨bd,bt,bw,hhi⟩:=mul64_hi x y hx hy
 have ba:=half_mul_le (a:=x/4294967296) (b:=y/4294967296) (by omega) (by omega)
 have bb:=half_mul_le (a:=x/4294967296) (b:=y%4294967296) (by omega) (by omega)
 have bc:=half_mul_le (a:=x%4294967296) (b:=y/4294967296) (by omega) (by omega)
 have ba':x/4294967296*(y/4294967296)<18446744073709551616:=by omega
 have bb':x/4294967296*(y%4294967296)<18446744073709551616:=by omega
 have bc':x%4294967296*(y/4294967296)<18446744073709551616:=by omega
 have bh1:x/4294967296*(y/4294967296)+(x/4294967296*(y%4294967296)+x%4294967296*(y%4294967296)/4294967296)/4294967296<18446744073709551616:=by omega
 have bh:x/4294967296*(y/4294967296)+(x/4294967296*(y%4294967296)+x%4294967296*(y%4294967296)/4294967296)/4294967296+((x/4294967296*(y%4294967296)+x%4294967296*(y%4294967296)/4294967296)%4294967296+x%4294967296*(y/4294967296))/4294967296<18446744073709551616:=by omega
 go_enter Tryz.func209,Tryz.ntmps209
 go_wp2
 simp only[Mul64.maskN x hx,Mul64.maskN y hy,Mul64.divN,Mul64.mulN,Mul64.addN,Mul64.wrapN _ bd,Mul64.wrapN _ bb',Mul64.wrapN _ bt,Mul64.maskN _ bt,Mul64.wrapN _ bc',Mul64.wrapN _ bw,Mul64.wrapN _ ba',Mul64.wrapN _ bh1,Mul64.wrapN _ bh,Mul64.wrapM (x*y)]
 rw[hhi]
 go_ret2
 exact⟨rfl,rfl⟩
theorem sub64(x y b:Int)(hx:0<=x)(hy:0<=y)(hy':y<18446744073709551616)(hb0:0<=b)(hb:b<=1)(w:World):(callFunc 208 #[.int .u64 x,.int .u64 y,.int .u64 b]).run Tryz.prog w=
 .ok (.value (.tuple #[.int .u64 ((x-y-b)%18446744073709551616),.int .u64 (if x<y+b then 1 else 0)])) w:=by
 obtain⟨x,rfl⟩:=Int.eq_ofNat_of_zero_le hx
 obtain⟨y,rfl⟩:=Int.eq_ofNat_of_zero_le hy
 obtain⟨b,rfl⟩:=Int.eq_ofNat_of_zero_le hb0
 have e1:(((x+18446744073709551616-y-b)%18446744073709551616:Nat):Int)=((x:Int)-y-b)%18446744073709551616:=by omega
 have e2:((if x<y+b then 1 else 0:Nat):Int)=if (x:Int)<y+b then 1 else 0:=by split<;>split<;>omega
 rw[<- e1,<- e2]
 rw[run_callFunc_extern Tryz.func208 (by kernel_rfl) (by kernel_rfl) (by kernel_rfl) (e:=sub64Entry) (by kernel_rfl),run_sub64 x y b (by omega)]
 rfl
theorem sub64_0(x y:Int)(hx:0<=x)(hy:0<=y)(hy':y<18446744073709551616)(w:World):(callFunc 208 #[.int .u64 x,.int .u64 y,.int .u64 0]).run Tryz.prog w=
 .ok (.value (.tuple #[.int .u64 ((x-y)%18446744073709551616),.int .u64 (if x<y then 1 else 0)])) w:=by
 simpa using sub64 x y 0 hx hy hy' (Int.le_refl 0) (by decide) w
theorem opp_c(w:World)(h l:Int)(h0:0<=h)(h1:h<=4611686018427387904)(l0:0<=l)(l1:l<18446744073709551616):
 Calls Tryz.prog 149 #[.agg #[.int .i64 h,.int .u64 l]] w fun e w'=>e=.returned (zBL (-(h*18446744073709551616+l)))∧Below w.heap.size w w':=by
 obtain⟨b,hb⟩:∃b:Int,b=if (0:Int)<l then 1 else 0:=⟨_,rfl⟩
 have b0:0<=b:=by rw[hb];split<;>decide
 have b1:b<=1:=by rw[hb];split<;>decide
 have hL:(0-l)%18446744073709551616=(-(h*18446744073709551616+l))%18446744073709551616:=by omega
 have hH:IntKind.i64.wrap ((0-h-b)%18446744073709551616)=(-(h*18446744073709551616+l))/18446744073709551616:=by
  rw[IntKind.wrap_i64]
  rcases Int.lt_or_le 0 l with hl|hl
  ·rw[if_pos hl]at hb;subst hb;omega
  ·rw[if_neg (by omega)]at hb;subst hb;omega
 have hu:IntKind.u64.wrap h=h:=by rw[IntKind.wrap_u64];omega
 have s1:∀w,(callFunc 208 #[.int .u64 0,.int .u64 l,.int .u64 0]).run Tryz.prog w=.ok (.value (.tuple #[.int .u64 ((-(h*18446744073709551616+l))%18446744073709551616),.int .u64 b])) w:=fun w=>by
  rw[sub64_0 0 l (by decide) l0 l1,<- hb,hL]
 have s2:∀w,(callFunc 208 #[.int .u64 0,.int .u64 h,.int .u64 b]).run Tryz.prog w=.ok (.value (.tuple #[.int .u64 ((0-h-b)%18446744073709551616),.int .u64 (if 0<h+b then 1 else 0)])) w:=fun w=>sub64 0 h b (by decide) h0 (by omega) b0 b1 w
 obtain⟨bo,hbo⟩:∃bo:Int,bo=if 0<h+b then 1 else 0:=⟨_,rfl⟩
 rw[<- hbo]at s2
 unfold zBL
 obtain⟨R1,hR1⟩:=exq ((-(h*18446744073709551616+l))/18446744073709551616)
 obtain⟨R2,hR2⟩:=exq ((-(h*18446744073709551616+l))%18446744073709551616)
 obtain⟨R3,hR3⟩:=exq ((0-h-b)%18446744073709551616)
 rw[<- hR2]at s1
 rw[<- hR3]at s2 hH
 rw[<- hR1]at hH
 rw[<- hR1,<- hR2]
 clear hL hb hbo hR1 hR2 hR3 b0 b1
 go_enter Tryz.func149,Tryz.ntmps149
 go_wp2_with (first|simp only[s1]|simp only[s2])
 simp[bodyPost,results,Tryz.results149,go_sem]
 exact((Below.refl _ _).alloc (Nat.le_refl _) _).alloc (by simp) _
theorem cmp_lex{V U:Int}:(V/18446744073709551616<U/18446744073709551616->V<U)∧(U/18446744073709551616<V/18446744073709551616->U<V)∧
 (V/18446744073709551616=U/18446744073709551616->V%18446744073709551616<U%18446744073709551616->V<U)∧(V/18446744073709551616=U/18446744073709551616->U%18446744073709551616<V%18446744073709551616->U<V)∧
 (V/18446744073709551616=U/18446744073709551616->V%18446744073709551616=U%18446744073709551616->V=U):=by omega
theorem zCM(w:World)(V U:Int):Calls Tryz.prog 207 #[zBL V,zBL U] w fun e w'=>e=.returned (.int .i64 (cmpI V U))∧Below w.heap.size w w':=by
 obtain⟨k1,k2,k3,k4,k5⟩:=cmp_lex (V:=V) (U:=U)
 unfold zBL
 obtain⟨h,hh⟩:=exq (V/18446744073709551616)
 obtain⟨l,hl⟩:=exq (V%18446744073709551616)
 obtain⟨h',hh'⟩:∃h,h=U/18446744073709551616:=⟨_,rfl⟩
 obtain⟨l',hl'⟩:∃h,h=U%18446744073709551616:=⟨_,rfl⟩
 rw[<- hh,<- hl,<- hh',<- hl']
 rw[<- hh,<- hh']at k1 k2 k3 k4 k5
 rw[<- hl,<- hl']at k3 k4 k5
 clear hh hl hh' hl'
 obtain⟨C,hC⟩:=exq (cmpI V U)
 rw[<- hC]
 have HBL:=hid (show Below w.heap.size w ((w.alloc (.cells #[.int .i64 h,.int .u64 l] 100)).alloc (.cells #[.int .i64 h',.int .u64 l'] 100))from((Below.refl _ _).alloc (Nat.le_refl _) _).alloc (by simp) _)
 rcases Int.lt_trichotomy h h' with c1|c1|c1
 ·have hv:=k1 c1
  obtain rfl:C= -1:=by rw[hC];unfold cmpI;rw[if_pos hv]
  have hne:(h==h')=false:=by simp;omega
  have hne2:¬h=h':=by omega
  clear hC k1 k2 k3 k4 k5
  go_enter Tryz.func207,Tryz.ntmps207
  go_wp2
  go_ret
  exact⟨rfl,HBL.out⟩
 ·subst c1
  rcases Int.lt_trichotomy l l' with c2|c2|c2
  ·have hv:=k3 rfl c2
   obtain rfl:C= -1:=by rw[hC];unfold cmpI;rw[if_pos hv]
   have hne:(l==l')=false:=by simp;omega
   have hne2:¬l=l':=by omega
   clear hC k1 k2 k3 k4 k5
   go_enter Tryz.func207,Tryz.ntmps207
   go_wp2
   go_ret
   exact⟨rfl,HBL.out⟩
  ·subst c2
   have hv:=k5 rfl rfl
   obtain rfl:C=0:=by rw[hC];unfold cmpI;rw[if_neg (by omega),if_pos hv]
   clear hC k1 k2 k3 k4 k5
   go_enter Tryz.func207,Tryz.ntmps207
   go_wp2
   go_ret
   exact⟨rfl,HBL.out⟩
  ·have hv:=k4 rfl c2
   obtain rfl:C=1:=by rw[hC];unfold cmpI;rw[if_neg (by omega),if_neg (by omega)]
   have hne:(l==l')=false:=by simp;omega
   have hne2:¬l=l':=by omega
   have hnl:¬l<l':=by omega
   clear hC k1 k2 k3 k4 k5
   go_enter Tryz.func207,Tryz.ntmps207
   go_wp2
   go_ret
   exact⟨rfl,HBL.out⟩
 ·have hv:=k2 c1
  obtain rfl:C=1:=by rw[hC];unfold cmpI;rw[if_neg (by omega),if_neg (by omega)]
  have hne:(h==h')=false:=by simp;omega
  have hne2:¬h=h':=by omega
  have hnl:¬h<h':=by omega
  clear hC k1 k2 k3 k4 k5
  go_enter Tryz.func207,Tryz.ntmps207
  go_wp2
  go_ret
  exact⟨rfl,HBL.out⟩
theorem prod_sign(a b:Int):((decide (a<0) !=decide (b<0))=true->a*b= -(((a.natAbs*b.natAbs:Nat):Int)))∧((decide (a<0) !=decide (b<0))=false->a*b=((a.natAbs*b.natAbs:Nat):Int)):=by
 rw[Int.natCast_mul]
 rcases Int.lt_or_le a 0 with h1|h1<;>rcases Int.lt_or_le b 0 with h2|h2
 ·have e1:((a.natAbs:Nat):Int)= -a:=by omega
  have e2:((b.natAbs:Nat):Int)= -b:=by omega
  rw[e1,e2]
  simp[h1,h2]
  try grind
 ·have e1:((a.natAbs:Nat):Int)= -a:=by omega
  have e2:((b.natAbs:Nat):Int)=b:=by omega
  rw[e1,e2]
  simp[h1,Int.not_lt.2 h2]
  try grind
 ·have e1:((a.natAbs:Nat):Int)=a:=by omega
  have e2:((b.natAbs:Nat):Int)= -b:=by omega
  rw[e1,e2]
  simp[Int.not_lt.2 h1,h2]
  try grind
 ·have e1:((a.natAbs:Nat):Int)=a:=by omega
  have e2:((b.natAbs:Nat):Int)=b:=by omega
  rw[e1,e2]
  simp[Int.not_lt.2 h1,Int.not_lt.2 h2]
theorem zFM(w:World)(a b:Int)(ha: -9223372036854775808<=a∧a<=9223372036854775807)(hb: -9223372036854775808<=b∧b<=9223372036854775807):
 Calls Tryz.prog 235 #[.int .i64 a,.int .i64 b] w fun e w'=>e=.returned (zBL (a*b))∧Below w.heap.size w w':=by
 obtain⟨s1,s2⟩:=prod_sign a b
 have HS1:=hid (fun X=>size_c X a ha)
 have HS2:=hid (fun X=>size_c X b hb)
 obtain⟨x,hx⟩:=exq (a.natAbs)
 obtain⟨y,hy⟩:=exq (b.natAbs)
 rw[<- hx,<- hy]at s1 s2
 rw[<- hx]at HS1
 rw[<- hy]at HS2
 have hx1:x<=9223372036854775808:=by omega
 have hy1:y<=9223372036854775808:=by omega
 have hp:x*y<=9223372036854775808*9223372036854775808:=Nat.mul_le_mul hx1 hy1
 have HM:=hid (fun X=>mul64_c x y (by omega) (by omega) X)
 obtain⟨P,hP⟩:=exq (x*y)
 rw[<- hP]at s1 s2 hp HM
 obtain⟨H,hH⟩:∃H:Int,H=((P/18446744073709551616:Nat):Int):=⟨_,rfl⟩
 obtain⟨Lo,hLo⟩:∃H:Int,H=((P%18446744073709551616:Nat):Int):=⟨_,rfl⟩
 rw[<- hH,<- hLo]at HM
 have h0:0<=H:=by omega
 have h1:H<=4611686018427387904:=by omega
 have l0:0<=Lo:=by omega
 have l1:Lo<18446744073709551616:=by omega
 have hw:IntKind.i64.wrap H=H:=IntWalk.i64_in _ (by omega)
 have heq:H*18446744073709551616+Lo=(P:Int):=by omega
 have HO:=hid (fun X=>opp_c X H Lo h0 h1 l0 l1)
 rw[heq]at HO
 have hwv:zBL (P:Int)=.agg #[.int .i64 H,.int .u64 Lo]:=by
  unfold zBL
  rw[show(P:Int)/18446744073709551616=H by omega,show(P:Int)%18446744073709551616=Lo by omega]
 by_cases ha0:a<0<;>by_cases hb0:b<0
 ·skip
  have hd1:decide (a<0)=true:=by simp[ha0]
  have hd2:decide (b<0)=true:=by simp[hb0]
  have e:=s2 (by simp[ha0,hb0])
  rw[e,hwv]
  clear s1 s2 hx hy hP hH hLo heq hwv e HO hp
  go_enter Tryz.func235,Tryz.ntmps235
  go_wp2_with (go_at_call 210;refine(HS1.out _).mono ?_;rintro e w1 ⟨rfl,rfl⟩;refine Stop.of ?_)
  refine Stop.go ?_
  go_wp2_with (go_at_call 210;refine(HS2.out _).mono ?_;rintro e w1 ⟨rfl,rfl⟩;refine Stop.of ?_)
  refine Stop.go ?_
  go_wp2_with (go_at_call 209;refine(HM.out _).mono ?_;rintro e w1 ⟨rfl,rfl⟩;refine Stop.of ?_)
  refine Stop.go ?_
  go_wp2
  simp[bodyPost,results,Tryz.results235,go_sem]
  exact((Below.refl _ _).alloc (Nat.le_refl _) _).alloc (by simp) _
 ·skip
  have hd1:decide (a<0)=true:=by simp[ha0]
  have hd2:decide (b<0)=false:=by simp[hb0]
  have e:=s1 (by simp[ha0,hb0])
  rw[e]
  obtain⟨R1,hR1⟩:=exq ((-(P:Int))/18446744073709551616)
  obtain⟨R2,hR2⟩:=exq ((-(P:Int))%18446744073709551616)
  have hwn:zBL (-(P:Int))=.agg #[.int .i64 R1,.int .u64 R2]:=by unfold zBL;rw[hR1,hR2]
  rw[hwn]at HO⊢
  clear s1 s2 hx hy hP hH hLo heq hwv e hp hR1 hR2 hwn
  go_enter Tryz.func235,Tryz.ntmps235
  go_wp2_with (go_at_call 210;refine(HS1.out _).mono ?_;rintro e w1 ⟨rfl,rfl⟩;refine Stop.of ?_)
  refine Stop.go ?_
  go_wp2_with (go_at_call 210;refine(HS2.out _).mono ?_;rintro e w1 ⟨rfl,rfl⟩;refine Stop.of ?_)
  refine Stop.go ?_
  go_wp2_with (go_at_call 209;refine(HM.out _).mono ?_;rintro e w1 ⟨rfl,rfl⟩;refine Stop.of ?_)
  refine Stop.go ?_
  go_wp2_with (go_at_call 149;refine(HO.out _).mono ?_;rintro e w2 ⟨rfl,hb2⟩;refine Stop.of ?_)
  refine Stop.go ?_
  have hba:Below w.heap.size w ((w.alloc (.cells #[.int .i64 0,.int .u64 0] 100)).alloc (.cells #[.int .i64 H,.int .u64 Lo] 100)):=((Below.refl _ _).alloc (Nat.le_refl _) _).alloc (by simp) _
  have hbx:=zAA hba hb2
  have c0:w2.cell? ⟨w.heap.size,0,none⟩=some (.int .i64 0):=((bcell hb2).1 w.heap.size 0 (by simp;omega)).trans (by rw[World.cell?_alloc_past _ _ _ (by simp),World.cell?_alloc_at _ _ _ _ rfl];rfl)
  have c1:w2.cell? ⟨w.heap.size,1,none⟩=some (.int .u64 0):=((bcell hb2).1 w.heap.size 1 (by simp;omega)).trans (by rw[World.cell?_alloc_past _ _ _ (by simp),World.cell?_alloc_at _ _ _ _ rfl];rfl)
  have hlt2:w.heap.size<w2.heap.size:=by have:=hb2.size;simp at this;omega
  have f0:w2.frozen? ⟨w.heap.size,0,none⟩=false:=((bcell hb2).2 w.heap.size 0 (by simp;omega)).trans (by simp[go_sem])
  have f1:w2.frozen? ⟨w.heap.size,1,none⟩=false:=((bcell hb2).2 w.heap.size 1 (by simp;omega)).trans (by simp[go_sem])
  go_wp2
  simp[bodyPost,results,Tryz.results235,go_sem,c0,c1,f0,f1,hlt2]
  exact zAE (zAE hbx (Nat.le_refl _) 0 _) (Nat.le_refl _) 1 _
 ·skip
  have hd1:decide (a<0)=false:=by simp[ha0]
  have hd2:decide (b<0)=true:=by simp[hb0]
  have e:=s1 (by simp[ha0,hb0])
  rw[e]
  obtain⟨R1,hR1⟩:=exq ((-(P:Int))/18446744073709551616)
  obtain⟨R2,hR2⟩:=exq ((-(P:Int))%18446744073709551616)
  have hwn:zBL (-(P:Int))=.agg #[.int .i64 R1,.int .u64 R2]:=by unfold zBL;rw[hR1,hR2]
  rw[hwn]at HO⊢
  clear s1 s2 hx hy hP hH hLo heq hwv e hp hR1 hR2 hwn
  go_enter Tryz.func235,Tryz.ntmps235
  go_wp2_with (go_at_call 210;refine(HS1.out _).mono ?_;rintro e w1 ⟨rfl,rfl⟩;refine Stop.of ?_)
  refine Stop.go ?_
  go_wp2_with (go_at_call 210;refine(HS2.out _).mono ?_;rintro e w1 ⟨rfl,rfl⟩;refine Stop.of ?_)
  refine Stop.go ?_
  go_wp2_with (go_at_call 209;refine(HM.out _).mono ?_;rintro e w1 ⟨rfl,rfl⟩;refine Stop.of ?_)
  refine Stop.go ?_
  go_wp2_with (go_at_call 149;refine(HO.out _).mono ?_;rintro e w2 ⟨rfl,hb2⟩;refine Stop.of ?_)
  refine Stop.go ?_
  have hba:Below w.heap.size w ((w.alloc (.cells #[.int .i64 0,.int .u64 0] 100)).alloc (.cells #[.int .i64 H,.int .u64 Lo] 100)):=((Below.refl _ _).alloc (Nat.le_refl _) _).alloc (by simp) _
  have hbx:=zAA hba hb2
  have c0:w2.cell? ⟨w.heap.size,0,none⟩=some (.int .i64 0):=((bcell hb2).1 w.heap.size 0 (by simp;omega)).trans (by rw[World.cell?_alloc_past _ _ _ (by simp),World.cell?_alloc_at _ _ _ _ rfl];rfl)
  have c1:w2.cell? ⟨w.heap.size,1,none⟩=some (.int .u64 0):=((bcell hb2).1 w.heap.size 1 (by simp;omega)).trans (by rw[World.cell?_alloc_past _ _ _ (by simp),World.cell?_alloc_at _ _ _ _ rfl];rfl)
  have hlt2:w.heap.size<w2.heap.size:=by have:=hb2.size;simp at this;omega
  have f0:w2.frozen? ⟨w.heap.size,0,none⟩=false:=((bcell hb2).2 w.heap.size 0 (by simp;omega)).trans (by simp[go_sem])
  have f1:w2.frozen? ⟨w.heap.size,1,none⟩=false:=((bcell hb2).2 w.heap.size 1 (by simp;omega)).trans (by simp[go_sem])
  go_wp2
  simp[bodyPost,results,Tryz.results235,go_sem,c0,c1,f0,f1,hlt2]
  exact zAE (zAE hbx (Nat.le_refl _) 0 _) (Nat.le_refl _) 1 _
 ·skip
  have hd1:decide (a<0)=false:=by simp[ha0]
  have hd2:decide (b<0)=false:=by simp[hb0]
  have e:=s2 (by simp[ha0,hb0])
  rw[e,hwv]
  clear s1 s2 hx hy hP hH hLo heq hwv e HO hp
  go_enter Tryz.func235,Tryz.ntmps235
  go_wp2_with (go_at_call 210;refine(HS1.out _).mono ?_;rintro e w1 ⟨rfl,rfl⟩;refine Stop.of ?_)
  refine Stop.go ?_
  go_wp2_with (go_at_call 210;refine(HS2.out _).mono ?_;rintro e w1 ⟨rfl,rfl⟩;refine Stop.of ?_)
  refine Stop.go ?_
  go_wp2_with (go_at_call 209;refine(HM.out _).mono ?_;rintro e w1 ⟨rfl,rfl⟩;refine Stop.of ?_)
  refine Stop.go ?_
  go_wp2
  simp[bodyPost,results,Tryz.results235,go_sem]
  exact((Below.refl _ _).alloc (Nat.le_refl _) _).alloc (by simp) _
end
section
open Go.RowKit
def dF(d:Int):Int:=if d<1 then 1 else d
def cmpR(an ad bn bd:Int):Int:=cmpI (an*dF bd) (bn*dF ad)
def F64(n:Int):Prop:= -9223372036854775808<=n∧n<=9223372036854775807
theorem fcompare_c(w:World)(an ad bn bd:Int)(h1:F64 an)(h2:F64 ad)(h3:F64 bn)(h4:F64 bd):
 Calls Tryz.prog 198 #[.agg #[.int .i64 an,.int .i64 ad],.agg #[.int .i64 bn,.int .i64 bd]] w fun e w'=>e=.returned (.int .i64 (cmpR an ad bn bd))∧Below w.heap.size w w':=by
 obtain⟨h1a,h1b⟩:=h1
 obtain⟨h2a,h2b⟩:=h2
 obtain⟨h3a,h3b⟩:=h3
 obtain⟨h4a,h4b⟩:=h4
 unfold cmpR dF
 by_cases c1:ad<1<;>by_cases c2:bd<1
 ·rw[if_pos c1,if_pos c2]
  obtain⟨C,hC⟩:=exq (cmpI (an*1) (bn*1))
  rw[<- hC]
  have HCC:=hid hC
  obtain⟨wz,hwz⟩:=exq ((w.alloc (.cells #[.int .i64 an,.int .i64 1] 29)).alloc (.cells #[.int .i64 bn,.int .i64 1] 29))
  have hbz:Below w.heap.size w wz:=by rw[hwz];exact((Below.refl _ _).alloc (Nat.le_refl _) _).alloc (by simp) _
  have hsz:wz.heap.size=w.heap.size+2:=by rw[hwz];simp
  have l0:=zAM (W:=wz) (b:=w.heap.size) (o:=0) (by omega) (show wz.cell? ⟨w.heap.size,0,none⟩=some (.int .i64 an)by rw[hwz,World.cell?_alloc_past _ _ _ (by simp),World.cell?_alloc_at _ _ _ _ rfl];rfl)
  have l1:=zAM (W:=wz) (b:=w.heap.size) (o:=1) (by omega) (show wz.cell? ⟨w.heap.size,1,none⟩=some (.int .i64 1)by rw[hwz,World.cell?_alloc_past _ _ _ (by simp),World.cell?_alloc_at _ _ _ _ rfl];rfl)
  have l2:=zAM (W:=wz) (b:=w.heap.size+1) (o:=0) (by omega) (show wz.cell? ⟨w.heap.size+1,0,none⟩=some (.int .i64 bn)by rw[hwz,World.cell?_alloc_at _ _ _ _ (by simp)];rfl)
  have l3:=zAM (W:=wz) (b:=w.heap.size+1) (o:=1) (by omega) (show wz.cell? ⟨w.heap.size+1,1,none⟩=some (.int .i64 1)by rw[hwz,World.cell?_alloc_at _ _ _ _ (by simp)];rfl)
  have HWZ:=hid hwz
  have HBZ:=hid hbz
  clear hC hwz hbz hsz
  go_enter Tryz.func198,Tryz.ntmps198
  go_wp2
  rw[<- HWZ.out]
  refine zCI (by kernel_rfl) (by kernel_rfl) ?_
  repeat (go_big_quiet_step (first
   | (go_at_call 235;exact zBJ (zFM _ _ _ (by omega) (by omega)))
   | (go_at_call 207;exact zBJ (zCM _ _ _))))
  refine wpQuiet_nil ?_
  rintro _ ⟨X,rfl⟩
  have hfin:=zAA HBZ.out (zBZ wz X)
  go_wp2
  go_ret
  exact⟨zCC (by rw[HCC.out];try simp),hfin⟩
 ·rw[if_pos c1,if_neg c2]
  obtain⟨C,hC⟩:=exq (cmpI (an*bd) (bn*1))
  rw[<- hC]
  have HCC:=hid hC
  obtain⟨wz,hwz⟩:=exq ((w.alloc (.cells #[.int .i64 an,.int .i64 1] 29)).alloc (.cells #[.int .i64 bn,.int .i64 bd] 29))
  have hbz:Below w.heap.size w wz:=by rw[hwz];exact((Below.refl _ _).alloc (Nat.le_refl _) _).alloc (by simp) _
  have hsz:wz.heap.size=w.heap.size+2:=by rw[hwz];simp
  have l0:=zAM (W:=wz) (b:=w.heap.size) (o:=0) (by omega) (show wz.cell? ⟨w.heap.size,0,none⟩=some (.int .i64 an)by rw[hwz,World.cell?_alloc_past _ _ _ (by simp),World.cell?_alloc_at _ _ _ _ rfl];rfl)
  have l1:=zAM (W:=wz) (b:=w.heap.size) (o:=1) (by omega) (show wz.cell? ⟨w.heap.size,1,none⟩=some (.int .i64 1)by rw[hwz,World.cell?_alloc_past _ _ _ (by simp),World.cell?_alloc_at _ _ _ _ rfl];rfl)
  have l2:=zAM (W:=wz) (b:=w.heap.size+1) (o:=0) (by omega) (show wz.cell? ⟨w.heap.size+1,0,none⟩=some (.int .i64 bn)by rw[hwz,World.cell?_alloc_at _ _ _ _ (by simp)];rfl)
  have l3:=zAM (W:=wz) (b:=w.heap.size+1) (o:=1) (by omega) (show wz.cell? ⟨w.heap.size+1,1,none⟩=some (.int .i64 bd)by rw[hwz,World.cell?_alloc_at _ _ _ _ (by simp)];rfl)
  have HWZ:=hid hwz
  have HBZ:=hid hbz
  clear hC hwz hbz hsz
  go_enter Tryz.func198,Tryz.ntmps198
  go_wp2
  rw[<- HWZ.out]
  refine zCI (by kernel_rfl) (by kernel_rfl) ?_
  repeat (go_big_quiet_step (first
   | (go_at_call 235;exact zBJ (zFM _ _ _ (by omega) (by omega)))
   | (go_at_call 207;exact zBJ (zCM _ _ _))))
  refine wpQuiet_nil ?_
  rintro _ ⟨X,rfl⟩
  have hfin:=zAA HBZ.out (zBZ wz X)
  go_wp2
  go_ret
  exact⟨zCC (by rw[HCC.out];try simp),hfin⟩
 ·rw[if_neg c1,if_pos c2]
  obtain⟨C,hC⟩:=exq (cmpI (an*1) (bn*ad))
  rw[<- hC]
  have HCC:=hid hC
  obtain⟨wz,hwz⟩:=exq ((w.alloc (.cells #[.int .i64 an,.int .i64 ad] 29)).alloc (.cells #[.int .i64 bn,.int .i64 1] 29))
  have hbz:Below w.heap.size w wz:=by rw[hwz];exact((Below.refl _ _).alloc (Nat.le_refl _) _).alloc (by simp) _
  have hsz:wz.heap.size=w.heap.size+2:=by rw[hwz];simp
  have l0:=zAM (W:=wz) (b:=w.heap.size) (o:=0) (by omega) (show wz.cell? ⟨w.heap.size,0,none⟩=some (.int .i64 an)by rw[hwz,World.cell?_alloc_past _ _ _ (by simp),World.cell?_alloc_at _ _ _ _ rfl];rfl)
  have l1:=zAM (W:=wz) (b:=w.heap.size) (o:=1) (by omega) (show wz.cell? ⟨w.heap.size,1,none⟩=some (.int .i64 ad)by rw[hwz,World.cell?_alloc_past _ _ _ (by simp),World.cell?_alloc_at _ _ _ _ rfl];rfl)
  have l2:=zAM (W:=wz) (b:=w.heap.size+1) (o:=0) (by omega) (show wz.cell? ⟨w.heap.size+1,0,none⟩=some (.int .i64 bn)by rw[hwz,World.cell?_alloc_at _ _ _ _ (by simp)];rfl)
  have l3:=zAM (W:=wz) (b:=w.heap.size+1) (o:=1) (by omega) (show wz.cell? ⟨w.heap.size+1,1,none⟩=some (.int .i64 1)by rw[hwz,World.cell?_alloc_at _ _ _ _ (by simp)];rfl)
  have HWZ:=hid hwz
  have HBZ:=hid hbz
  clear hC hwz hbz hsz
  go_enter Tryz.func198,Tryz.ntmps198
  go_wp2
  rw[<- HWZ.out]
  refine zCI (by kernel_rfl) (by kernel_rfl) ?_
  repeat (go_big_quiet_step (first
   | (go_at_call 235;exact zBJ (zFM _ _ _ (by omega) (by omega)))
   | (go_at_call 207;exact zBJ (zCM _ _ _))))
  refine wpQuiet_nil ?_
  rintro _ ⟨X,rfl⟩
  have hfin:=zAA HBZ.out (zBZ wz X)
  go_wp2
  go_ret
  exact⟨zCC (by rw[HCC.out];try simp),hfin⟩
 ·rw[if_neg c1,if_neg c2]
  obtain⟨C,hC⟩:=exq (cmpI (an*bd) (bn*ad))
  rw[<- hC]
  have HCC:=hid hC
  obtain⟨wz,hwz⟩:=exq ((w.alloc (.cells #[.int .i64 an,.int .i64 ad] 29)).alloc (.cells #[.int .i64 bn,.int .i64 bd] 29))
  have hbz:Below w.heap.size w wz:=by rw[hwz];exact((Below.refl _ _).alloc (Nat.le_refl _) _).alloc (by simp) _
  have hsz:wz.heap.size=w.heap.size+2:=by rw[hwz];simp
  have l0:=zAM (W:=wz) (b:=w.heap.size) (o:=0) (by omega) (show wz.cell? ⟨w.heap.size,0,none⟩=some (.int .i64 an)by rw[hwz,World.cell?_alloc_past _ _ _ (by simp),World.cell?_alloc_at _ _ _ _ rfl];rfl)
  have l1:=zAM (W:=wz) (b:=w.heap.size) (o:=1) (by omega) (show wz.cell? ⟨w.heap.size,1,none⟩=some (.int .i64 ad)by rw[hwz,World.cell?_alloc_past _ _ _ (by simp),World.cell?_alloc_at _ _ _ _ rfl];rfl)
  have l2:=zAM (W:=wz) (b:=w.heap.size+1) (o:=0) (by omega) (show wz.cell? ⟨w.heap.size+1,0,none⟩=some (.int .i64 bn)by rw[hwz,World.cell?_alloc_at _ _ _ _ (by simp)];rfl)
  have l3:=zAM (W:=wz) (b:=w.heap.size+1) (o:=1) (by omega) (show wz.cell? ⟨w.heap.size+1,1,none⟩=some (.int .i64 bd)by rw[hwz,World.cell?_alloc_at _ _ _ _ (by simp)];rfl)
  have HWZ:=hid hwz
  have HBZ:=hid hbz
  clear hC hwz hbz hsz
  go_enter Tryz.func198,Tryz.ntmps198
  go_wp2
  rw[<- HWZ.out]
  refine zCI (by kernel_rfl) (by kernel_rfl) ?_
  repeat (go_big_quiet_step (first
   | (go_at_call 235;exact zBJ (zFM _ _ _ (by omega) (by omega)))
   | (go_at_call 207;exact zBJ (zCM _ _ _))))
  refine wpQuiet_nil ?_
  rintro _ ⟨X,rfl⟩
  have hfin:=zAA HBZ.out (zBZ wz X)
  go_wp2
  go_ret
  exact⟨zCC (by rw[HCC.out];try simp),hfin⟩
theorem lcompare_c(w:World)(an ad bn bd:Int)(h1:F64 an)(h2:F64 ad)(h3:F64 bn)(h4:F64 bd):
 Calls Tryz.prog 136 #[.agg #[.int .i64 an,.int .i64 ad],.agg #[.int .i64 bn,.int .i64 bd]] w fun e w'=>e=.returned (.int .i64 (cmpR an ad bn bd))∧Below w.heap.size w w':=by
 have HC:=hid (fun X=>fcompare_c X an ad bn bd h1 h2 h3 h4)
 obtain⟨C,hC⟩:=exq (cmpR an ad bn bd)
 rw[<- hC]at HC⊢
 have HBL:=hid (show Below w.heap.size w ((w.alloc (.cells #[.int .i64 an,.int .i64 ad] 29)).alloc (.cells #[.int .i64 bn,.int .i64 bd] 29))from((Below.refl _ _).alloc (Nat.le_refl _) _).alloc (by simp) _)
 clear hC
 go_enter Tryz.func136,Tryz.ntmps136
 go_wp2_with (go_at_call 198;refine(HC.out _).mono ?_;rintro e w1 ⟨rfl,hb1⟩)
 go_ret
 exact⟨rfl,zAA HBL.out hb1⟩
end
end
section
section
open Go.RowKit Go.Lib
theorem AnyT.nextB{P:Program}{md:Region.Mode}{ops:Array Oper}{Q:Exit->Act->World->Prop}{T:Nat->World->Prop}{i j:Nat}{fuel:Nat}{listed:Array Bool}{a:Act}{w:World}(hr:Region.ready md ops listed=[i,j])
 (h1:wpOp P ops Q i (fun a' w'=>T i w'∧AnyT P md ops Q T fuel (listed.setIfInBounds i true) a' w') a w)
 (h2:wpOp P ops Q j (fun a' w'=>T j w'∧AnyT P md ops Q T fuel (listed.setIfInBounds j true) a' w') a w):AnyT P md ops Q T (fuel+1) listed a w:=
 ⟨fun h0=>(by rw[hr]at h0;cases h0),fun k hk=>by
   rw[hr]at hk
   have:k=i∨k=j:=by simpa using hk
   rcases this with rfl|rfl
   ·exact h1
   ·exact h2⟩
theorem add64(x y b:Int)(hx:0<=x)(hx':x<18446744073709551616)(hy:0<=y)(hy':y<18446744073709551616)(hb0:0<=b)(hb:b<=1)(w:World):(callFunc 212 #[.int .u64 x,.int .u64 y,.int .u64 b]).run Tryz.prog w=
 .ok (.value (.tuple #[.int .u64 ((x+y+b)%18446744073709551616),.int .u64 ((x+y+b)/18446744073709551616)])) w:=by
 rw[run_callFunc_extern Tryz.func212 (by kernel_rfl) (by kernel_rfl) (by kernel_rfl) (e:=add64Entry) (by kernel_rfl),run_add64 x y b (by omega) (by omega) (by omega) (by omega)]
 simp only[Result.andThen]
theorem zGE(w:World)(V U:Int)(h: -170141183460469231731687303715884105728<=V+U∧V+U<170141183460469231731687303715884105728)(hV: -170141183460469231731687303715884105728<=V∧V<170141183460469231731687303715884105728)(hU: -170141183460469231731687303715884105728<=U∧U<170141183460469231731687303715884105728):
 Calls Tryz.prog 161 #[zBL V,zBL U] w fun e w'=>e=.returned (zBL (V+U))∧Below w.heap.size w w':=by
 unfold zBL
 obtain⟨a,ha⟩:=exq (V/18446744073709551616)
 obtain⟨b,hb⟩:=exq (V%18446744073709551616)
 obtain⟨c,hc⟩:=exq (U/18446744073709551616)
 obtain⟨d,hd⟩:=exq (U%18446744073709551616)
 obtain⟨r1,hr1⟩:=exq ((V+U)/18446744073709551616)
 obtain⟨r2,hr2⟩:=exq ((V+U)%18446744073709551616)
 obtain⟨k,hk⟩:=exq ((b+d+0)/18446744073709551616)
 obtain⟨a',ha'⟩:∃k,k=IntKind.u64.wrap a:=⟨_,rfl⟩
 obtain⟨c',hc'⟩:∃k,k=IntKind.u64.wrap c:=⟨_,rfl⟩
 have ea:a'=a%18446744073709551616:=by rw[ha',IntKind.wrap_u64]
 have ec:c'=c%18446744073709551616:=by rw[hc',IntKind.wrap_u64]
 obtain⟨s,hs⟩:=exq ((a'+c'+k)%18446744073709551616)
 obtain⟨t,ht⟩:=exq ((a'+c'+k)/18446744073709551616)
 have k0:0<=k∧k<=1:=by omega
 have s1:∀w,(callFunc 212 #[.int .u64 b,.int .u64 d,.int .u64 0]).run Tryz.prog w=.ok (.value (.tuple #[.int .u64 r2,.int .u64 k])) w:=fun w=>by
  rw[add64 b d 0 (by omega) (by omega) (by omega) (by omega) (by decide) (by decide),<- hk,show(b+d+0)%18446744073709551616=r2 by omega]
 have s2:∀w,(callFunc 212 #[.int .u64 a',.int .u64 c',.int .u64 k]).run Tryz.prog w=.ok (.value (.tuple #[.int .u64 s,.int .u64 t])) w:=fun w=>by
  rw[add64 a' c' k (by omega) (by omega) (by omega) (by omega) k0.1 k0.2,<- hs,<- ht]
 have hw:IntKind.i64.wrap s=r1:=by rw[IntKind.wrap_i64];omega
 have ha2:IntKind.u64.wrap a=a':=ha'.symm
 have hc2:IntKind.u64.wrap c=c':=hc'.symm
 rw[<- ha,<- hb,<- hc,<- hd,<- hr1,<- hr2]
 clear ha hb hc hd hr1 hr2 hk ha' hc' ea ec hs ht k0 h hV hU
 go_enter Tryz.func161,Tryz.ntmps161
 go_wp2_with (first|simp only[s1]|simp only[s2])
 simp[bodyPost,results,Tryz.results161,go_sem]
 exact(((Below.refl _ _).alloc (Nat.le_refl _) _).alloc (by simp) _).alloc (by simp;omega) _
theorem zHX(w:World)(V:Int)(hV: -170141183460469231731687303715884105728<V∧V<170141183460469231731687303715884105728):
 Calls Tryz.prog 149 #[zBL V] w fun e w'=>e=.returned (zBL (-V))∧Below w.heap.size w w':=by
 unfold zBL
 obtain⟨a,ha⟩:=exq (V/18446744073709551616)
 obtain⟨l,hl⟩:=exq (V%18446744073709551616)
 obtain⟨R1,hR1⟩:=exq ((-V)/18446744073709551616)
 obtain⟨R2,hR2⟩:=exq ((-V)%18446744073709551616)
 obtain⟨b,hb⟩:∃b:Int,b=if (0:Int)<l then 1 else 0:=⟨_,rfl⟩
 have b0:0<=b:=by rw[hb];split<;>decide
 have b1:b<=1:=by rw[hb];split<;>decide
 have hbl:(0<l->b=1)∧(¬0<l->b=0):=by rw[hb];exact⟨fun h=>if_pos h,fun h=>if_neg h⟩
 obtain⟨h,hh⟩:=exq (IntKind.u64.wrap a)
 have eh:h=a%18446744073709551616:=by rw[hh,IntKind.wrap_u64]
 obtain⟨R3,hR3⟩:=exq ((0-h-b)%18446744073709551616)
 obtain⟨bo,hbo⟩:∃bo:Int,bo=if 0<h+b then 1 else 0:=⟨_,rfl⟩
 have s1:∀w,(callFunc 208 #[.int .u64 0,.int .u64 l,.int .u64 0]).run Tryz.prog w=.ok (.value (.tuple #[.int .u64 R2,.int .u64 b])) w:=fun w=>by
  rw[sub64_0 0 l (by decide) (by omega) (by omega),<- hb,show(0-l)%18446744073709551616=R2 by omega]
 have s2:∀w,(callFunc 208 #[.int .u64 0,.int .u64 h,.int .u64 b]).run Tryz.prog w=.ok (.value (.tuple #[.int .u64 R3,.int .u64 bo])) w:=fun w=>by
  rw[sub64 0 h b (by decide) (by omega) (by omega) b0 b1,<- hR3,<- hbo]
 have hw:IntKind.i64.wrap R3=R1:=by
  rw[IntKind.wrap_i64]
  rcases Int.lt_or_le 0 l with h1|h1
  ·have:=hbl.1 h1;omega
  ·have:=hbl.2 (by omega);omega
 have hu:IntKind.u64.wrap a=h:=hh.symm
 rw[<- ha,<- hl,<- hR1,<- hR2]
 clear ha hl hR1 hR2 hb b0 b1 hbl hh eh hR3 hbo hV
 go_enter Tryz.func149,Tryz.ntmps149
 go_wp2_with (first|simp only[s1]|simp only[s2])
 simp[bodyPost,results,Tryz.results149,go_sem]
 exact((Below.refl _ _).alloc (Nat.le_refl _) _).alloc (by simp) _
def sumV(n d:Int):Value:=.agg #[.int .i64 (n/18446744073709551616),.int .u64 (n%18446744073709551616),.int .i64 (d/18446744073709551616),.int .u64 (d%18446744073709551616)]
theorem zHW(w:World):Calls Tryz.prog 95 #[] w fun e w'=>e=.returned (sumV 0 1)∧Below w.heap.size w w':=by
 have h0:sumV 0 1=.agg #[.int .i64 0,.int .u64 0,.int .i64 0,.int .u64 1]:=by simp[sumV]
 rw[h0]
 go_enter Tryz.func95,Tryz.ntmps95
 go_wp2
 simp[bodyPost,results,Tryz.results95,go_sem]
 exact(Below.refl _ _).alloc (Nat.le_refl _) _
theorem div_mod_join{P HX q o r K:Nat}(h:P=HX*K+q)(ho:o=q/K)(hr:r=q%K):P=(HX+o)*K+r:=by
 have:=Nat.div_add_mod q K
 rw[<- ho,<- hr,Nat.mul_comm]at this
 rw[h,Nat.add_mul];omega
theorem mul_split{v H l K x:Nat}(hv:v=H*K+l):v*x=H*x*K+l*x:=by rw[hv,Nat.add_mul,Nat.mul_right_comm]
theorem wtimes0_c(w:World)(V n:Int)(h0:0<=V)(hV:V<170141183460469231731687303715884105728)(hn: -9223372036854775808<n∧n<=9223372036854775807)(hP:V*(n.natAbs:Nat)<170141183460469231731687303715884105728):
 Calls Tryz.prog 151 #[zBL V,.int .i64 n] w fun e w'=>e=.returned (zBL (V*n))∧Below w.heap.size w w':=by
 have HSZ:=hid (fun X=>size_c X n ⟨by omega,hn.2⟩)
 obtain⟨x,hx⟩:=exq (n.natAbs)
 rw[<- hx]at HSZ hP
 obtain⟨v,rfl⟩:=Int.eq_ofNat_of_zero_le h0
 have hx1:x<=9223372036854775807:=by omega
 obtain⟨H,hH⟩:=exq (v/18446744073709551616)
 obtain⟨l,hl⟩:=exq (v%18446744073709551616)
 have hv:v=H*18446744073709551616+l:=by omega
 have hl1:l<18446744073709551616:=by omega
 have hPn:v*x<170141183460469231731687303715884105728:=by rw[<- Int.natCast_mul]at hP;omega
 have hmul:v*x=H*x*18446744073709551616+l*x:=mul_split hv
 obtain⟨HX,hHX⟩:=exq (H*x)
 obtain⟨o,ho⟩:=exq (l*x/18446744073709551616)
 obtain⟨r,hr⟩:=exq (l*x%18446744073709551616)
 have HM:=hid (fun X=>mul64_c l x hl1 (by omega) X)
 rw[<- ho,<- hr]at HM
 obtain⟨P,hPe⟩:=exq (v*x)
 rw[<- hPe]at hPn hmul
 rw[<- hHX]at hmul
 have hPd:P=(HX+o)*18446744073709551616+r:=div_mod_join hmul ho hr
 have hsum:HX+o<9223372036854775808:=by omega
 have hr1:r<18446744073709551616:=by omega
 have hw0:zBL (v:Int)=.agg #[.int .i64 H,.int .u64 l]:=by
  unfold zBL
  rw[show(v:Int)/18446744073709551616=H by omega,show(v:Int)%18446744073709551616=l by omega]
 obtain⟨R,hR⟩:∃R:Nat,R=HX+o:=⟨_,rfl⟩
 have hwP:zBL (P:Int)=.agg #[.int .i64 R,.int .u64 r]:=by
  unfold zBL
  rw[show(P:Int)/18446744073709551616=R by omega,show(P:Int)%18446744073709551616=r by omega]
 have HWP:=hid hwP
 have e1:IntKind.i64.wrap (x:Int)=x:=IntWalk.i64_in _ (by omega)
 have e2:IntKind.i64.wrap ((H:Int)*x)=HX:=by rw[show(H:Int)*x=(HX:Int)by rw[hHX];simp];exact IntWalk.i64_in _ (by omega)
 have e3:IntKind.i64.wrap (o:Int)=o:=IntWalk.i64_in _ (by omega)
 have e4:IntKind.i64.wrap ((HX:Int)+o)=R:=by rw[IntWalk.i64_in _ (by omega)];omega
 have hneg:¬((H:Int)<0):=by omega
 have hres:(v:Int)*n=if n<0 then-(P:Int)else(P:Int):=by
  have:(P:Int)=(v:Int)*x:=by rw[hPe];simp
  split
  ·rw[this,show n= -(x:Int)by omega,Int.mul_neg]
  ·rw[this,show n=(x:Int)by omega]
 have HO:=hid (fun X=>zHX X (P:Int) (by omega))
 rw[hwP]at HO
 rw[hw0,hres]
 clear hwP
 obtain⟨s,hs⟩:=exq (w.heap.size)
 obtain⟨wa,hwa⟩:=exq ((w.alloc (.cells #[.int .i64 H,.int .u64 l] 100)).alloc (.cells #[.int .i64 0,.int .u64 0] 100))
 have hba:Below w.heap.size w wa:=by rw[hwa];exact((Below.refl _ _).alloc (Nat.le_refl _) _).alloc (by simp) _
 have l0:=zAM (W:=wa) (b:=s) (o:=0) (by rw[hwa,hs];simp;omega) (show _=some (.int .i64 H)by rw[hwa,hs,World.cell?_alloc_past _ _ _ (by simp),World.cell?_alloc_at _ _ _ _ rfl];rfl)
 have l1:=zAM (W:=wa) (b:=s) (o:=1) (by rw[hwa,hs];simp;omega) (show _=some (.int .u64 l)by rw[hwa,hs,World.cell?_alloc_past _ _ _ (by simp),World.cell?_alloc_at _ _ _ _ rfl];rfl)
 have q0:wa.heap[s+1]? =some (.cells #[.int .i64 0,.int .u64 0] 100 (0,0)):=by
  have:=World.alloc_heap_new (w.alloc (.cells #[.int .i64 H,.int .u64 l] 100)) (.cells #[.int .i64 0,.int .u64 0] 100)
  rw[hwa,hs]
  simpa using this
 have hs1:s+1<wa.heap.size:=(Array.getElem?_eq_some_iff.1 q0).1
 have HS:=hid (fun(Y:World) (hY:Below wa.heap.size wa Y)=>show Y.cell? ⟨s,0,none⟩=some (.int .i64 H)from by
  refine(hY.cell (p:=⟨s,0,none⟩) (by show s<_;omega)).trans ?_
  rw[hwa,hs,World.cell?_alloc_past _ _ _ (by simp),World.cell?_alloc_at _ _ _ _ rfl];rfl)
 have HR:=hid (fun(Y:World) (hY:Below wa.heap.size wa Y)=>show Y.cell? ⟨s+1,0,none⟩=some (.int .i64 0)∧Y.cell? ⟨s+1,1,none⟩=some (.int .u64 0)∧Y.frozen? ⟨s+1,0,none⟩=false∧Y.frozen? ⟨s+1,1,none⟩=false∧s+1<Y.heap.size from by
  have h1:=(hY.block (s+1) hs1).trans q0
  exact⟨by simp[World.cell?,h1],by simp[World.cell?,h1],by simp[World.frozen?,h1],by simp[World.frozen?,h1],(Array.getElem?_eq_some_iff.1 h1).1⟩)
 have HFIN:=hid (fun(Y:World) (hY:Below wa.heap.size wa Y) (u v:Value)=>show Below w.heap.size w ((Y.setCell ⟨s+1,0,none⟩ u).setCell ⟨s+1,1,none⟩ v)from
  zAE (zAE (zAA hba hY) (by omega) 0 u) (by omega) 1 v)
 clear hx hv hH hl hPn hP hmul hHX ho hr hPe hPd hsum hr1 hw0 hR hres h0 hV hn q0 hs1 hba
 go_enter Tryz.func151,Tryz.ntmps151
 go_wp2_with fail
 rw[<- hs,<- hwa]
 clear hs hwa
 go_wp2
 refine zCI (by kernel_rfl) (by kernel_rfl) ?_
 repeat (go_big_quiet_step (first
  | (go_at_call 210;exact zBJ ((HSZ.out _).mono fun e w' ⟨h1,h2⟩=>⟨h1,h2▸Below.refl _ _⟩))
  | (go_at_call 209;exact zBJ ((HM.out _).mono fun e w' ⟨h1,h2⟩=>⟨h1,h2▸Below.refl _ _⟩))))
 refine wpQuiet_nil ?_
 rintro _ ⟨X,rfl⟩
 have HB1:=hid (zBZ wa X)
 go_wp2
 refine zAG (fun j' X=>wAll j'=true->X.cell? ⟨s,0,none⟩=some (.int .i64 H)) (by kernel_rfl) ?_
 have hbd:Below wa.heap.size wa (lift wa X).drew:=HB1.out.drew
 generalize (lift wa X).drew=wd at hbd⊢
 refine AnyT.tD (i:=0) (v:=.pointer (some ⟨s,0,none⟩)) rfl rfl (by rintro w' y1;go_simp) (HS.out _ hbd) ?_;go_frame
 refine AnyT.tD (i:=1) (v:=.int .i64 H) rfl rfl (by rintro w' y1;go_simp) (HS.out _ hbd) ?_;go_frame
 refine AnyT.tD (i:=2) (v:=.int .i64 n) rfl rfl (by rintro w' y1;go_simp) (HS.out _ hbd) ?_;go_frame
 refine AnyT.tD (i:=6) (v:=.int .u64 o) rfl rfl (by rintro w' y1;go_simp) (HS.out _ hbd) ?_;go_frame
 refine AnyT.tD (i:=7) (v:=.int .i64 o) rfl rfl (by rintro w' y1;go_simp) (HS.out _ hbd) ?_;go_frame
 refine AnyT.tD (i:=9) (v:=.int .u64 r) rfl rfl (by rintro w' y1;go_simp) (HS.out _ hbd) ?_;go_frame
 refine AnyT.nextB (i:=3) (j:=11) (by kernel_rfl) (wpOp_of_list rfl ?_) (wpOp_of_list rfl ?_)
 ·go_wp2_with (go_at_call 210;refine(HSZ.out _).mono ?_;rintro e w1 ⟨rfl,rfl⟩;refine Stop.of ?_)
  refine Stop.go ?_
  go_wp2
  refine⟨fun _=>HS.out _ hbd,?_⟩
  refine AnyT.tD (i:=4) (v:=.int .i64 x) rfl rfl (by rintro w' y1;go_simp) (HS.out _ hbd) ?_;go_frame
  refine AnyT.tD (i:=5) (v:=.int .i64 HX) rfl rfl (by rintro w' y1;go_simp) (HS.out _ hbd) ?_;go_frame
  refine AnyT.tD (i:=8) (v:=.int .i64 R) rfl rfl (by rintro w' y1;go_simp) (HS.out _ hbd) ?_;go_frame
  refine AnyT.tD (i:=10) (v:=.agg #[.int .i64 R,.int .u64 r]) rfl rfl (by rintro w' y1;go_simp) (HS.out _ hbd) ?_;go_frame
  refine AnyT.nx (i:=11) rfl ?_
  have hbA:Below wa.heap.size wa (wd.alloc (.cells #[.int .i64 0,.int .u64 0] 100)):=hbd.alloc hbd.size _
  go_wp2
  refine⟨fun _=>HS.out _ hbA,?_⟩
  refine AnyT.nx (i:=12) rfl ?_
  have hbF:Below wa.heap.size wa (wd.alloc (.cells #[.int .i64 R,.int .u64 r] 100)):=hbd.alloc hbd.size _
  have HBF:=hid hbF
  have HR2:=hid (HR.out _ hbF)
  have HQ:=hid (show ∀Y,Below (wd.alloc (.cells #[.int .i64 R,.int .u64 r] 100)).heap.size (wd.alloc (.cells #[.int .i64 R,.int .u64 r] 100)) Y->Y.cell? ⟨wd.heap.size,0,none⟩=some (.int .i64 R)∧Y.cell? ⟨wd.heap.size,1,none⟩=some (.int .u64 r)from fun Y hY=>by
   have h1:=(hY.block wd.heap.size (by simp)).trans (World.alloc_heap_new wd _)
   exact⟨by simp[World.cell?,h1],by simp[World.cell?,h1]⟩)
  clear hbA
  go_wp2
  refine⟨fun _=>HS.out _ HBF.out,?_⟩
  refine AnyT.done (by kernel_rfl) ?_ _
  clear hbF hbd
  obtain⟨wz,hwz⟩:=exq (wd.alloc (.cells #[.int .i64 R,.int .u64 r] 100))
  rw[<- hwz]at HBF HR2 HQ⊢
  clear hwz
  obtain⟨c0,c1,f0,f1,hlt⟩:=HR2.out
  obtain⟨d0,d1⟩:=HQ.out wz (Below.refl _ _)
  by_cases hn0:n<0
  ·have hnb:decide (n<0)=true:=by simp[hn0]
   go_wp2_with (go_at_call 149;refine(HO.out wz).mono ?_;rintro e w2 ⟨rfl,hb2⟩;refine Stop.of ?_)
   refine Stop.go ?_
   have HB2:=hid (zAA HBF.out hb2)
   obtain⟨c0,c1,f0,f1,hlt⟩:=HR.out _ HB2.out
   have HFI:=hid (HFIN.out _ HB2.out)
   have hwz:=(show zBL (-(P:Int))=.agg #[.int .i64 ((-(P:Int))/18446744073709551616),.int .u64 ((-(P:Int))%18446744073709551616)]from rfl)
   obtain⟨z1,hz1⟩:=exq ((-(P:Int))/18446744073709551616)
   obtain⟨z2,hz2⟩:=exq ((-(P:Int))%18446744073709551616)
   rw[<- hz1,<- hz2]at hwz
   have HWZ:=hid hwz
   rw[hwz]
   clear hwz hb2 HFIN hz1 hz2
   go_wp2
   refine bodyPost_ret (v:=.agg #[.int .i64 z1,.int .u64 z2]) ?_ rfl ⟨by first|rw[HWZ.out]|rw[if_pos (by omega),HWZ.out],HFI.out _ _⟩
   simp[results,Tryz.results151,go_sem,c0,c1,f0,f1,hlt]
  ·have hnb:decide (n<0)=false:=by simp[hn0]
   have HFI:=hid (HFIN.out _ HBF.out)
   clear HFIN
   go_wp2
   refine bodyPost_ret (v:=.agg #[.int .i64 R,.int .u64 r]) ?_ rfl ⟨by first|rw[HWP.out]|rw[if_neg (by omega),HWP.out],HFI.out _ _⟩
   simp[results,Tryz.results151,go_sem,c0,c1,f0,f1,hlt]
 ·go_wp2
  have hbA:Below wa.heap.size wa (wd.alloc (.cells #[.int .i64 0,.int .u64 0] 100)):=hbd.alloc hbd.size _
  refine⟨fun _=>HS.out _ hbA,?_⟩
  refine AnyT.nx (i:=3) rfl ?_
  go_wp2_with (go_at_call 210;refine(HSZ.out _).mono ?_;rintro e w1 ⟨rfl,rfl⟩;refine Stop.of ?_)
  refine Stop.go ?_
  go_wp2
  refine⟨fun _=>HS.out _ hbA,?_⟩
  refine AnyT.tD (i:=4) (v:=.int .i64 x) rfl rfl (by rintro w' y1;go_simp) (HS.out _ hbA) ?_;go_frame
  refine AnyT.tD (i:=5) (v:=.int .i64 HX) rfl rfl (by rintro w' y1;go_simp) (HS.out _ hbA) ?_;go_frame
  refine AnyT.tD (i:=8) (v:=.int .i64 R) rfl rfl (by rintro w' y1;go_simp) (HS.out _ hbA) ?_;go_frame
  refine AnyT.tD (i:=10) (v:=.agg #[.int .i64 R,.int .u64 r]) rfl rfl (by rintro w' y1;go_simp) (HS.out _ hbA) ?_;go_frame
  refine AnyT.nx (i:=12) rfl ?_
  have hbF:Below wa.heap.size wa (wd.alloc (.cells #[.int .i64 R,.int .u64 r] 100)):=hbd.alloc hbd.size _
  have HBF:=hid hbF
  have HR2:=hid (HR.out _ hbF)
  have HQ:=hid (show ∀Y,Below (wd.alloc (.cells #[.int .i64 R,.int .u64 r] 100)).heap.size (wd.alloc (.cells #[.int .i64 R,.int .u64 r] 100)) Y->Y.cell? ⟨wd.heap.size,0,none⟩=some (.int .i64 R)∧Y.cell? ⟨wd.heap.size,1,none⟩=some (.int .u64 r)from fun Y hY=>by
   have h1:=(hY.block wd.heap.size (by simp)).trans (World.alloc_heap_new wd _)
   exact⟨by simp[World.cell?,h1],by simp[World.cell?,h1]⟩)
  clear hbA
  go_wp2
  refine⟨fun _=>HS.out _ HBF.out,?_⟩
  refine AnyT.done (by kernel_rfl) ?_ _
  clear hbF hbd
  obtain⟨wz,hwz⟩:=exq (wd.alloc (.cells #[.int .i64 R,.int .u64 r] 100))
  rw[<- hwz]at HBF HR2 HQ⊢
  clear hwz
  obtain⟨c0,c1,f0,f1,hlt⟩:=HR2.out
  obtain⟨d0,d1⟩:=HQ.out wz (Below.refl _ _)
  by_cases hn0:n<0
  ·have hnb:decide (n<0)=true:=by simp[hn0]
   go_wp2_with (go_at_call 149;refine(HO.out wz).mono ?_;rintro e w2 ⟨rfl,hb2⟩;refine Stop.of ?_)
   refine Stop.go ?_
   have HB2:=hid (zAA HBF.out hb2)
   obtain⟨c0,c1,f0,f1,hlt⟩:=HR.out _ HB2.out
   have HFI:=hid (HFIN.out _ HB2.out)
   have hwz:=(show zBL (-(P:Int))=.agg #[.int .i64 ((-(P:Int))/18446744073709551616),.int .u64 ((-(P:Int))%18446744073709551616)]from rfl)
   obtain⟨z1,hz1⟩:=exq ((-(P:Int))/18446744073709551616)
   obtain⟨z2,hz2⟩:=exq ((-(P:Int))%18446744073709551616)
   rw[<- hz1,<- hz2]at hwz
   have HWZ:=hid hwz
   rw[hwz]
   clear hwz hb2 HFIN hz1 hz2
   go_wp2
   refine bodyPost_ret (v:=.agg #[.int .i64 z1,.int .u64 z2]) ?_ rfl ⟨by first|rw[HWZ.out]|rw[if_pos (by omega),HWZ.out],HFI.out _ _⟩
   simp[results,Tryz.results151,go_sem,c0,c1,f0,f1,hlt]
  ·have hnb:decide (n<0)=false:=by simp[hn0]
   have HFI:=hid (HFIN.out _ HBF.out)
   clear HFIN
   go_wp2
   refine bodyPost_ret (v:=.agg #[.int .i64 R,.int .u64 r]) ?_ rfl ⟨by first|rw[HWP.out]|rw[if_neg (by omega),HWP.out],HFI.out _ _⟩
   simp[results,Tryz.results151,go_sem,c0,c1,f0,f1,hlt]
theorem zES(w:World)(V n:Int)(hV: -170141183460469231731687303715884105728<V∧V<170141183460469231731687303715884105728)(hn: -9223372036854775808<n∧n<=9223372036854775807)(hP:(V.natAbs*n.natAbs:Nat)<170141183460469231731687303715884105728):
 Calls Tryz.prog 151 #[zBL V,.int .i64 n] w fun e w'=>e=.returned (zBL (V*n))∧Below w.heap.size w w':=by
 by_cases h0:0<=V
 ·refine wtimes0_c w V n h0 hV.2 hn ?_
  rw[show V=((V.natAbs:Nat):Int)by omega,<- Int.natCast_mul]
  omega
 ·have HT:=hid (fun X=>wtimes0_c X (-V) n (by omega) (by omega) hn (by
   rw[show-V=((V.natAbs:Nat):Int)by omega,<- Int.natCast_mul]
   omega))
  have HO1:=hid (fun X=>zHX X V hV)
  have hbn: -170141183460469231731687303715884105728< -V*n∧ -V*n<170141183460469231731687303715884105728:=by
   have e:(-V*n).natAbs=V.natAbs*n.natAbs:=by rw[Int.natAbs_mul,Int.natAbs_neg]
   rw[<- e]at hP
   omega
  have HO2:=hid (fun X=>zHX X (-V*n) hbn)
  have hve: -(-V*n)=V*n:=by rw[Int.neg_mul,Int.neg_neg]
  rw[hve]at HO2
  obtain⟨Z,hZ⟩:=exq (V*n)
  obtain⟨Y,hY⟩:=exq (-V*n)
  rw[<- hZ]at HO2⊢
  rw[<- hY]at HT HO2
  obtain⟨a,ha⟩:=exq (V/18446744073709551616)
  obtain⟨l,hl⟩:=exq (V%18446744073709551616)
  have hw0:zBL V=.agg #[.int .i64 a,.int .u64 l]:=by unfold zBL;rw[<- ha,<- hl]
  have hwz:zBL Z=.agg #[.int .i64 (Z/18446744073709551616),.int .u64 (Z%18446744073709551616)]:=rfl
  obtain⟨z1,hz1⟩:=exq (Z/18446744073709551616)
  obtain⟨z2,hz2⟩:=exq (Z%18446744073709551616)
  rw[<- hz1,<- hz2]at hwz
  rw[hw0]at HO1⊢
  rw[hwz]at HO2⊢
  have haN:a<0:=by omega
  obtain⟨s,hs⟩:=exq (w.heap.size)
  obtain⟨wa,hwa⟩:=exq ((w.alloc (.cells #[.int .i64 a,.int .u64 l] 100)).alloc (.cells #[.int .i64 0,.int .u64 0] 100))
  have hba:Below w.heap.size w wa:=by rw[hwa];exact((Below.refl _ _).alloc (Nat.le_refl _) _).alloc (by simp) _
  have q0:wa.heap[s+1]? =some (.cells #[.int .i64 0,.int .u64 0] 100 (0,0)):=by
   have:=World.alloc_heap_new (w.alloc (.cells #[.int .i64 a,.int .u64 l] 100)) (.cells #[.int .i64 0,.int .u64 0] 100)
   rw[hwa,hs]
   simpa using this
  have hs1:s+1<wa.heap.size:=(Array.getElem?_eq_some_iff.1 q0).1
  have c00:wa.cell? ⟨s,0,none⟩=some (.int .i64 a):=by rw[hwa,hs,World.cell?_alloc_past _ _ _ (by simp),World.cell?_alloc_at _ _ _ _ rfl];rfl
  have c01:wa.cell? ⟨s,1,none⟩=some (.int .u64 l):=by rw[hwa,hs,World.cell?_alloc_past _ _ _ (by simp),World.cell?_alloc_at _ _ _ _ rfl];rfl
  have HR:=hid (fun(Y:World) (hY:Below wa.heap.size wa Y)=>show Y.cell? ⟨s+1,0,none⟩=some (.int .i64 0)∧Y.cell? ⟨s+1,1,none⟩=some (.int .u64 0)∧Y.frozen? ⟨s+1,0,none⟩=false∧Y.frozen? ⟨s+1,1,none⟩=false∧s+1<Y.heap.size from by
   have h1:=(hY.block (s+1) hs1).trans q0
   exact⟨by simp[World.cell?,h1],by simp[World.cell?,h1],by simp[World.frozen?,h1],by simp[World.frozen?,h1],(Array.getElem?_eq_some_iff.1 h1).1⟩)
  have HFIN:=hid (fun(Y:World) (hY:Below wa.heap.size wa Y) (u v:Value)=>show Below w.heap.size w ((Y.setCell ⟨s+1,0,none⟩ u).setCell ⟨s+1,1,none⟩ v)from
   zAE (zAE (zAA hba hY) (by omega) 0 u) (by omega) 1 v)
  clear hV hn hP h0 hbn hve hZ hY ha hl hw0 hwz hz1 hz2 q0 hs1 hba
  go_enter Tryz.func151,Tryz.ntmps151
  go_wp2_with fail
  rw[<- hs,<- hwa]
  clear hs hwa
  go_wp2_with (go_at_call 149;refine(HO1.out _).mono ?_;rintro e w1 ⟨rfl,hb1⟩;refine Stop.of ?_)
  refine Stop.go ?_
  have HB1:=hid hb1
  clear hb1
  go_wp2_with (go_at_call 151;refine(HT.out _).mono ?_;rintro e w2 ⟨rfl,hb2⟩;refine Stop.of ?_)
  refine Stop.go ?_
  have HB2:=hid (zAA HB1.out hb2)
  clear hb2
  go_wp2_with (go_at_call 149;refine(HO2.out _).mono ?_;rintro e w3 ⟨rfl,hb3⟩;refine Stop.of ?_)
  refine Stop.go ?_
  have hb:=zAA HB2.out hb3
  obtain⟨c0,c1,f0,f1,hlt⟩:=HR.out _ hb
  have HFI:=hid (HFIN.out _ hb)
  clear hb hb3 HFIN
  go_wp2
  refine bodyPost_ret (v:=.agg #[.int .i64 z1,.int .u64 z2]) ?_ rfl ⟨rfl,HFI.out _ _⟩
  simp[results,Tryz.results151,go_sem,c0,c1,f0,f1,hlt]
end
section
open Go.RowKit Go.Lib
def B127(V:Int):Prop:= -170141183460469231731687303715884105728<V∧V<170141183460469231731687303715884105728
def WP(V a b:Int):Prop:=a=V/18446744073709551616∧b=V%18446744073709551616
theorem WP.ex(V:Int):∃a b,WP V a b:=⟨_,_,rfl,rfl⟩
theorem WP.val{V a b:Int}(h:WP V a b):zBL V=.agg #[.int .i64 a,.int .u64 b]:=by rw[h.1,h.2];rfl
theorem WP.sum{V U a b c d:Int}(h:WP V a b)(k:WP U c d):sumV V U=.agg #[.int .i64 a,.int .u64 b,.int .i64 c,.int .u64 d]:=by rw[h.1,h.2,k.1,k.2];rfl
theorem zGH(w:World)(n d N D t:Int)(hn:B127 n)(hd:B127 d)(hD: -9223372036854775808<D∧D<=9223372036854775807)(hNt: -9223372036854775808<N*t∧N*t<=9223372036854775807)
 (h1:B127 (n*D))(h2:B127 (d*(N*t)))(h3:B127 (n*D+d*(N*t)))(h4:B127 (d*D)):
 Calls Tryz.prog 96 #[sumV n d,ratV (N,D),.int .i64 t] w fun e w'=>e=.returned (sumV (n*D+d*(N*t)) (d*D))∧Below w.heap.size w w':=by
 have nb:∀a b:Int,B127 (a*b)->(a.natAbs*b.natAbs:Nat)<170141183460469231731687303715884105728:=fun a b h=>by
  rw[<- Int.natAbs_mul];unfold B127 at h;omega
 have HT1:=hid (fun X=>zES X n D hn hD (nb _ _ h1))
 have HT2:=hid (fun X=>zES X d (N*t) hd hNt (nb _ _ h2))
 have HT3:=hid (fun X=>zES X d D hd hD (nb _ _ h4))
 have HPL:=hid (fun X=>zGE X (n*D) (d*(N*t)) (by unfold B127 at h3;omega) (by unfold B127 at h1;omega) (by unfold B127 at h2;omega))
 have hnt:IntKind.i64.wrap (N*t)=N*t:=IntWalk.i64_in _ (by omega)
 obtain⟨n1,n2,pn⟩:=WP.ex n
 obtain⟨d1,d2,pd⟩:=WP.ex d
 obtain⟨a1,a2,pA⟩:=WP.ex (n*D)
 obtain⟨b1,b2,pB⟩:=WP.ex (d*(N*t))
 obtain⟨s1,s2,pS⟩:=WP.ex (n*D+d*(N*t))
 obtain⟨c1,c2,pC⟩:=WP.ex (d*D)
 rw[pn.val,pA.val]at HT1
 rw[pd.val,pB.val]at HT2
 rw[pd.val,pC.val]at HT3
 rw[pA.val,pB.val,pS.val]at HPL
 rw[pn.sum pd,pS.sum pC]
 obtain⟨m,hm⟩:=exq (N*t)
 rw[<- hm]at HT2
 have hmul:IntKind.i64.wrap (N*t)=m:=by rw[hnt,hm]
 clear hnt hm nb hn hd hD hNt h1 h2 h3 h4 pn pd pA pB pS pC
 obtain⟨s,hs⟩:=exq (w.heap.size)
 obtain⟨wa,hwa⟩:=exq (((w.alloc (.cells #[.int .i64 n1,.int .u64 n2,.int .i64 d1,.int .u64 d2] 102)).alloc (.cells #[.int .i64 N,.int .i64 D] 29)).alloc (.cells #[.int .i64 0,.int .u64 0,.int .i64 0,.int .u64 0] 102))
 have hba:Below w.heap.size w wa:=by rw[hwa];exact(((Below.refl _ _).alloc (Nat.le_refl _) _).alloc (by simp) _).alloc (by simp;omega) _
 have q0:wa.heap[s+2]? =some (.cells #[.int .i64 0,.int .u64 0,.int .i64 0,.int .u64 0] 102 (0,0)):=by
  have:=World.alloc_heap_new ((w.alloc (.cells #[.int .i64 n1,.int .u64 n2,.int .i64 d1,.int .u64 d2] 102)).alloc (.cells #[.int .i64 N,.int .i64 D] 29)) (.cells #[.int .i64 0,.int .u64 0,.int .i64 0,.int .u64 0] 102)
  rw[hwa,hs]
  simpa using this
 have hs1:s+2<wa.heap.size:=(Array.getElem?_eq_some_iff.1 q0).1
 have hc:∀o v,(#[Value.int .i64 n1,.int .u64 n2,.int .i64 d1,.int .u64 d2]:Array Value)[o]? =some v->wa.cell? ⟨s,o,none⟩=some v:=fun o v h=>by
  rw[hwa,hs,World.cell?_alloc_past _ _ _ (by simp;omega),World.cell?_alloc_past _ _ _ (by simp),World.cell?_alloc_at _ _ _ _ rfl];exact h
 have hc2:∀o v,(#[Value.int .i64 N,.int .i64 D]:Array Value)[o]? =some v->wa.cell? ⟨s+1,o,none⟩=some v:=fun o v h=>by
  rw[hwa,hs,World.cell?_alloc_past _ _ _ (by simp),World.cell?_alloc_at _ _ _ _ (by simp)];exact h
 have HS:=hid (fun(Y:World) (hY:Below wa.heap.size wa Y)=>show Y.cell? ⟨s,0,none⟩=some (.int .i64 n1)∧Y.cell? ⟨s,1,none⟩=some (.int .u64 n2)∧Y.cell? ⟨s,2,none⟩=some (.int .i64 d1)∧Y.cell? ⟨s,3,none⟩=some (.int .u64 d2)∧Y.cell? ⟨s+1,0,none⟩=some (.int .i64 N)∧Y.cell? ⟨s+1,1,none⟩=some (.int .i64 D)from by
  have k0:∀o,Y.cell? ⟨s,o,none⟩=wa.cell? ⟨s,o,none⟩:=fun o=>hY.cell (p:=⟨s,o,none⟩) (by show s<_;omega)
  have k1:∀o,Y.cell? ⟨s+1,o,none⟩=wa.cell? ⟨s+1,o,none⟩:=fun o=>hY.cell (p:=⟨s+1,o,none⟩) (by show s+1<_;omega)
  exact⟨(k0 0).trans (hc 0 _ rfl),(k0 1).trans (hc 1 _ rfl),(k0 2).trans (hc 2 _ rfl),(k0 3).trans (hc 3 _ rfl),(k1 0).trans (hc2 0 _ rfl),(k1 1).trans (hc2 1 _ rfl)⟩)
 have HR:=hid (fun(Y:World) (hY:Below wa.heap.size wa Y)=>show Y.cell? ⟨s+2,0,none⟩=some (.int .i64 0)∧Y.cell? ⟨s+2,1,none⟩=some (.int .u64 0)∧Y.cell? ⟨s+2,2,none⟩=some (.int .i64 0)∧Y.cell? ⟨s+2,3,none⟩=some (.int .u64 0)∧(∀o,Y.frozen? ⟨s+2,o,none⟩=false)∧s+2<Y.heap.size from by
  have h1:=(hY.block (s+2) hs1).trans q0
  exact⟨by simp[World.cell?,h1],by simp[World.cell?,h1],by simp[World.cell?,h1],by simp[World.cell?,h1],fun o=>by simp[World.frozen?,h1],(Array.getElem?_eq_some_iff.1 h1).1⟩)
 have HFIN:=hid (fun(Y:World) (hY:Below wa.heap.size wa Y) (u v x z:Value)=>show Below w.heap.size w ((((Y.setCell ⟨s+2,0,none⟩ u).setCell ⟨s+2,1,none⟩ v).setCell ⟨s+2,2,none⟩ x).setCell ⟨s+2,3,none⟩ z)from
  zAE (zAE (zAE (zAE (zAA hba hY) (by omega) 0 u) (by omega) 1 v) (by omega) 2 x) (by omega) 3 z)
 have HFA:=hid (fun(Y:World) (hY:Below wa.heap.size wa Y) (u v x z:Value)=>show Below wa.heap.size wa wa∧∀o:Nat,True from⟨Below.refl _ _,fun _=>trivial⟩)
 clear hba q0 hs1 hc hc2 HFA
 go_enter Tryz.func96,Tryz.ntmps96
 simp only[ratV]
 go_wp2_with fail
 rw[<- hs,<- hwa]
 clear hs hwa
 refine zAG (fun j' X=>decide (j'<=18)=true->X.cell? ⟨s,0,none⟩=some (.int .i64 n1)∧X.cell? ⟨s,1,none⟩=some (.int .u64 n2)∧X.cell? ⟨s,2,none⟩=some (.int .i64 d1)∧X.cell? ⟨s,3,none⟩=some (.int .u64 d2)∧X.cell? ⟨s+1,0,none⟩=some (.int .i64 N)∧X.cell? ⟨s+1,1,none⟩=some (.int .i64 D)) (by kernel_rfl) ?_
 have hbd:Below wa.heap.size wa wa.drew:=(Below.refl _ _).drew
 generalize wa.drew=wd at hbd⊢
 refine AnyT.tD (i:=0) (v:=.pointer (some ⟨s,0,none⟩)) rfl rfl (by rintro w' ⟨y1,y2,y3,y4,y5,y6⟩;go_simp) (HS.out _ hbd) ?_;go_frame
 refine AnyT.tD (i:=1) (v:=.agg #[.int .i64 n1,.int .u64 n2]) rfl rfl (by rintro w' ⟨y1,y2,y3,y4,y5,y6⟩;go_simp) (HS.out _ hbd) ?_;go_frame
 refine AnyT.tD (i:=2) (v:=.pointer (some ⟨s+1,1,none⟩)) rfl rfl (by rintro w' ⟨y1,y2,y3,y4,y5,y6⟩;go_simp) (HS.out _ hbd) ?_;go_frame
 refine AnyT.tD (i:=3) (v:=.int .i64 D) rfl rfl (by rintro w' ⟨y1,y2,y3,y4,y5,y6⟩;go_simp) (HS.out _ hbd) ?_;go_frame
 refine AnyT.tD (i:=5) (v:=.pointer (some ⟨s,2,none⟩)) rfl rfl (by rintro w' ⟨y1,y2,y3,y4,y5,y6⟩;go_simp) (HS.out _ hbd) ?_;go_frame
 refine AnyT.tD (i:=6) (v:=.agg #[.int .i64 d1,.int .u64 d2]) rfl rfl (by rintro w' ⟨y1,y2,y3,y4,y5,y6⟩;go_simp) (HS.out _ hbd) ?_;go_frame
 refine AnyT.tD (i:=7) (v:=.pointer (some ⟨s+1,0,none⟩)) rfl rfl (by rintro w' ⟨y1,y2,y3,y4,y5,y6⟩;go_simp) (HS.out _ hbd) ?_;go_frame
 refine AnyT.tD (i:=8) (v:=.int .i64 N) rfl rfl (by rintro w' ⟨y1,y2,y3,y4,y5,y6⟩;go_simp) (HS.out _ hbd) ?_;go_frame
 refine AnyT.tD (i:=9) (v:=.int .i64 t) rfl rfl (by rintro w' ⟨y1,y2,y3,y4,y5,y6⟩;go_simp) (HS.out _ hbd) ?_;go_frame
 refine AnyT.tD (i:=10) (v:=.int .i64 m) rfl rfl (by rintro w' ⟨y1,y2,y3,y4,y5,y6⟩;go_simp) (HS.out _ hbd) ?_;go_frame
 refine AnyT.tD (i:=13) (v:=.pointer (some ⟨s,2,none⟩)) rfl rfl (by rintro w' ⟨y1,y2,y3,y4,y5,y6⟩;go_simp) (HS.out _ hbd) ?_;go_frame
 refine AnyT.tD (i:=14) (v:=.agg #[.int .i64 d1,.int .u64 d2]) rfl rfl (by rintro w' ⟨y1,y2,y3,y4,y5,y6⟩;go_simp) (HS.out _ hbd) ?_;go_frame
 refine AnyT.tD (i:=15) (v:=.pointer (some ⟨s+1,1,none⟩)) rfl rfl (by rintro w' ⟨y1,y2,y3,y4,y5,y6⟩;go_simp) (HS.out _ hbd) ?_;go_frame
 refine AnyT.tD (i:=16) (v:=.int .i64 D) rfl rfl (by rintro w' ⟨y1,y2,y3,y4,y5,y6⟩;go_simp) (HS.out _ hbd) ?_;go_frame
 refine AnyT.nx (i:=4) rfl ?_
 go_wp2_with (go_at_call 151;refine(HT1.out _).mono ?_;rintro e w1 ⟨rfl,hbw1⟩;refine Stop.of ?_)
 refine Stop.go ?_
 have HB1:=hid (zAA hbd hbw1)
 clear hbw1
 go_wp2
 refine⟨fun _=>HS.out _ HB1.out,?_⟩
 refine AnyT.nx (i:=11) rfl ?_
 go_wp2_with (go_at_call 151;refine(HT2.out _).mono ?_;rintro e w2 ⟨rfl,hbw2⟩;refine Stop.of ?_)
 refine Stop.go ?_
 have HB2:=hid (zAA HB1.out hbw2)
 clear hbw2
 go_wp2
 refine⟨fun _=>HS.out _ HB2.out,?_⟩
 refine AnyT.nx (i:=12) rfl ?_
 go_wp2_with (go_at_call 161;refine(HPL.out _).mono ?_;rintro e w3 ⟨rfl,hbw3⟩;refine Stop.of ?_)
 refine Stop.go ?_
 have HB3:=hid (zAA HB2.out hbw3)
 clear hbw3
 go_wp2
 refine⟨fun _=>HS.out _ HB3.out,?_⟩
 refine AnyT.nx (i:=17) rfl ?_
 go_wp2_with (go_at_call 151;refine(HT3.out _).mono ?_;rintro e w4 ⟨rfl,hbw4⟩;refine Stop.of ?_)
 refine Stop.go ?_
 have HB4:=hid (zAA HB3.out hbw4)
 clear hbw4
 go_wp2
 refine⟨fun _=>HS.out _ HB4.out,?_⟩
 refine AnyT.nx (i:=18) rfl ?_
 go_wp2
 refine⟨fun _=>HS.out _ HB4.out,?_⟩
 refine AnyT.nx (i:=19) rfl ?_
 obtain⟨c00,c01,c02,c03,hfz,hlt⟩:=HR.out _ HB4.out
 have f0:=hfz 0
 have f1:=hfz 1
 have f2:=hfz 2
 have f3:=hfz 3
 have HFI:=hid (HFIN.out _ HB4.out)
 clear HFIN hfz
 go_wp2
 refine⟨fun h=>absurd h (by decide),?_⟩
 refine AnyT.done (by kernel_rfl) ?_ _
 go_wp2
 refine bodyPost_ret (v:=.agg #[.int .i64 s1,.int .u64 s2,.int .i64 c1,.int .u64 c2]) ?_ rfl ⟨rfl,HFI.out _ _ _ _⟩
 simp[results,Tryz.results96,go_sem,c00,c01,c02,c03,f0,f1,f2,f3,hlt]
theorem zGK(w:World)(n d y:Int)(hd:B127 d)(hy: -9223372036854775808<y∧y<=9223372036854775807)(h1:B127 (d*y)):
 Calls Tryz.prog 155 #[sumV n d,.int .i64 y] w fun e w'=>e=.returned (.int .i64 (cmpI n (d*y)))∧Below w.heap.size w w':=by
 have HT:=hid (fun X=>zES X d y hd hy (by rw[<- Int.natAbs_mul];unfold B127 at h1;omega))
 have HC:=hid (fun X=>zCM X n (d*y))
 obtain⟨n1,n2,pn⟩:=WP.ex n
 obtain⟨d1,d2,pd⟩:=WP.ex d
 obtain⟨a1,a2,pA⟩:=WP.ex (d*y)
 rw[pd.val,pA.val]at HT
 rw[pn.val,pA.val]at HC
 rw[pn.sum pd]
 obtain⟨c,hc⟩:=exq (cmpI n (d*y))
 rw[<- hc]at HC⊢
 clear hc hd hy h1 pn pd pA
 obtain⟨wz,hwz⟩:=exq (w.alloc (.cells #[.int .i64 n1,.int .u64 n2,.int .i64 d1,.int .u64 d2] 102))
 have hbz:Below w.heap.size w wz:=by rw[hwz];exact(Below.refl _ _).alloc (Nat.le_refl _) _
 have hsz:w.heap.size<wz.heap.size:=by rw[hwz];simp
 have hcl:∀o v,(#[Value.int .i64 n1,.int .u64 n2,.int .i64 d1,.int .u64 d2]:Array Value)[o]? =some v->wz.cell? ⟨w.heap.size,o,none⟩=some v:=fun o v h=>by
  rw[hwz,World.cell?_alloc_at _ _ _ _ rfl];exact h
 have l0:=zAM hsz (hcl 0 _ rfl)
 have l1:=zAM hsz (hcl 1 _ rfl)
 have l2:=zAM hsz (hcl 2 _ rfl)
 have l3:=zAM hsz (hcl 3 _ rfl)
 have HBZ:=hid hbz
 clear hbz hsz hcl
 go_enter Tryz.func155,Tryz.ntmps155
 go_wp2_with fail
 rw[<- hwz]
 clear hwz
 refine zCI (by kernel_rfl) (by kernel_rfl) ?_
 repeat (go_big_quiet_step (first
  | (go_at_call 151;exact zBJ (HT.out _))
  | (go_at_call 207;exact zBJ (HC.out _))))
 refine wpQuiet_nil ?_
 rintro _ ⟨X,rfl⟩
 have hfin:=zAA HBZ.out (zBZ wz X)
 go_wp2
 go_ret
 exact⟨rfl,hfin⟩
end
section
open Go.RowKit Go.Lib
def zAC(r:Rt):Bool:=decide (1<=r.2)&&(decide (r.2<=400)&&(decide (-10000000000<=r.1)&&(decide (r.1<=10000000000)&&decide (Int.gcd r.1 r.2=1))))
theorem zAO{r:Rt}:zAC r=true↔1<=r.2∧r.2<=400∧ -10000000000<=r.1∧r.1<=10000000000∧Int.gcd r.1 r.2=1:=by
 unfold zAC;simp only[Bool.and_eq_true,decide_eq_true_eq]
theorem zHR(w:World)(N D:Int):Calls Tryz.prog 147 #[.agg #[.int .i64 N,.int .i64 D]] w fun e w'=>e=.returned (.bool (zAC (N,D)))∧Below w.heap.size w w':=by
 obtain⟨wz,hwz⟩:=exq (w.alloc (.cells #[.int .i64 N,.int .i64 D] 29))
 have hbz:Below w.heap.size w wz:=by rw[hwz];exact(Below.refl _ _).alloc (Nat.le_refl _) _
 have l0:wz.cell? ⟨w.heap.size,0,none⟩=some (.int .i64 N):=by rw[hwz,World.cell?_alloc_at _ _ _ _ rfl];rfl
 have l1:wz.cell? ⟨w.heap.size,1,none⟩=some (.int .i64 D):=by rw[hwz,World.cell?_alloc_at _ _ _ _ rfl];rfl
 have HBZ:=hid hbz
 have HV:=hid (show zAC (N,D)=(decide (1<=D)&&(decide (D<=400)&&(decide (-10000000000<=N)&&(decide (N<=10000000000)&&decide (Int.gcd N D=1)))))from rfl)
 clear hbz
 by_cases h1:1<=D
 ·by_cases h2:D<=400
  ·by_cases h3: -10000000000<=N
   ·by_cases h4:N<=10000000000
    ·have HD:=hid (fun X=>zFX X N D (by omega) (by omega))
     obtain⟨g,hg⟩:∃g:Int,g=((Int.gcd N D:Nat):Int):=⟨_,rfl⟩
     rw[<- hg]at HD
     have HB:=hid (show zAC (N,D)=(g==1)from by
      rw[HV.out,decide_eq_true h1,decide_eq_true h2,decide_eq_true h3,decide_eq_true h4]
      simp only[Bool.true_and]
      rw[Bool.eq_iff_iff,decide_eq_true_iff]
      simp only[beq_iff_eq]
      omega)
     have d1:decide (1<=D)=true:=by simp;omega
     have d2:decide (D<=400)=true:=by simp;omega
     have d3:decide (-10000000000<=N)=true:=by simp;omega
     have d4:decide (N<=10000000000)=true:=by simp;omega
     clear hg HV
     go_enter Tryz.func147,Tryz.ntmps147
     go_wp2_with fail
     rw[<- hwz]
     clear hwz
     go_wp2_with (go_at_call 206;refine(HD.out _).mono ?_;rintro e w2 ⟨rfl,k2,rfl⟩;refine Stop.of ?_)
     refine Stop.go ?_
     go_wp2
     go_ret
     exact⟨zAR (by rw[HB.out]),zAV HBZ.out k2⟩
    ·have HB:=hid (show zAC (N,D)=false from by rw[HV.out,decide_eq_false h4];simp)
     have d4:decide (N<=10000000000)=false:=by simp;omega
     clear HV
     go_enter Tryz.func147,Tryz.ntmps147
     go_wp2_with fail
     rw[<- hwz]
     clear hwz
     go_wp2
     go_ret
     exact⟨zAR (by rw[HB.out]),HBZ.out⟩
   ·have HB:=hid (show zAC (N,D)=false from by rw[HV.out,decide_eq_false h3];simp)
    have d3:decide (-10000000000<=N)=false:=by simp;omega
    clear HV
    go_enter Tryz.func147,Tryz.ntmps147
    go_wp2_with fail
    rw[<- hwz]
    clear hwz
    go_wp2
    go_ret
    exact⟨zAR (by rw[HB.out]),HBZ.out⟩
  ·have HB:=hid (show zAC (N,D)=false from by rw[HV.out,decide_eq_false h2];simp)
   have d2:decide (D<=400)=false:=by simp;omega
   clear HV
   go_enter Tryz.func147,Tryz.ntmps147
   go_wp2_with fail
   rw[<- hwz]
   clear hwz
   go_wp2
   go_ret
   exact⟨zAR (by rw[HB.out]),HBZ.out⟩
 ·have HB:=hid (show zAC (N,D)=false from by rw[HV.out,decide_eq_false h1];simp)
  have d1:decide (1<=D)=false:=by simp;omega
  clear HV
  go_enter Tryz.func147,Tryz.ntmps147
  go_wp2_with fail
  rw[<- hwz]
  clear hwz
  go_wp2
  go_ret
  exact⟨zAR (by rw[HB.out]),HBZ.out⟩
theorem linvalid_c(w:World)(N D:Int):Calls Tryz.prog 154 #[.agg #[.int .i64 N,.int .i64 D]] w fun e w'=>e=.returned (.bool (!zAC (N,D)))∧Below w.heap.size w w':=by
 obtain⟨wz,hwz⟩:=exq (w.alloc (.cells #[.int .i64 N,.int .i64 D] 29))
 have HB:=hid (show Below w.heap.size w wz by rw[hwz];exact(Below.refl _ _).alloc (Nat.le_refl _) _)
 have l0:wz.cell? ⟨w.heap.size,0,none⟩=some (.int .i64 N):=by rw[hwz,World.cell?_alloc_at _ _ _ _ rfl];rfl
 have l1:wz.cell? ⟨w.heap.size,1,none⟩=some (.int .i64 D):=by rw[hwz,World.cell?_alloc_at _ _ _ _ rfl];rfl
 have HV:=hid (zHR wz N D)
 obtain⟨b,hb⟩:=exq (zAC (N,D))
 rw[<- hb]at HV⊢
 clear hb
 go_enter Tryz.func154,Tryz.ntmps154
 go_wp2_with fail
 rw[<- hwz]
 clear hwz
 go_wp2_with (go_at_call 147;refine HV.out.mono ?_;rintro e w2 ⟨rfl,hb2⟩;refine Stop.of ?_)
 refine Stop.go ?_
 go_wp2
 go_ret
 exact⟨rfl,zAA HB.out hb2⟩
theorem indexInv(w:World)(a:Option Addr)(n cap:Nat)(l:List Rt)(hn:l.length=n)(hm:n<=maxLen)(H:zAX w a l):
 Calls Tryz.prog 146 #[.slice a n cap,.func (.func 154) #[] #[]] w fun e w'=>e=.returned (.int .i64 (idxP (fun r=>!zAC r) l 0))∧Below w.heap.size w w':=by
 have HN:=hid hn
 have HH:=hid H
 have HP:=hid (fun(X:World) (N D:Int)=>linvalid_c X N D)
 have eg:=enters_of Tryz.func154 (by kernel_rfl) rfl
 clear hn H
 unfold maxLen at hm
 go_enter Tryz.func146,Tryz.ntmps146
 go_wp2
 go_loopw [8] (fun i wr=>∃k:Nat,k<=n∧i=.int .i64 k∧Below w.heap.size w wr∧∀i y,i<k->l[i]? =some y->(!zAC y)=false) (fun i _=>n-(intOf i).toNat)
 case atStart=>exact⟨0,Nat.zero_le _,rfl,Below.refl _ _,fun i y h=>by omega⟩
 case round=>
  obtain⟨k,hk,rfl,hb,hno⟩:=hrel
  have HNO:=hid hno
  clear hno
  by_cases hlt:k<n
  ·have hkl:k<l.length:=by rw[HN.out];exact hlt
   obtain⟨b,off,rfl,hbs,h0,h1⟩:=(HH.out.below hb) k hkl
   have HK:=hid (List.getElem?_eq_getElem hkl)
   obtain⟨⟨r1,r2⟩,hr⟩:∃r,r=l[k]'hkl:=⟨_,rfl⟩
   rw[<- hr]at h0 h1 HK
   simp only[]at h0 h1
   have HC:=hid (HP.out wr r1 r2)
   obtain⟨B,hB⟩:=exq (zAC (r1,r2))
   rw[<- hB]at HC
   have HBB:=hid hB.symm
   clear hr hB hkl
   go_wp2_with (refine HC.out.mono ?_;rintro e w1 ⟨rfl,hb1⟩;refine Stop.of ?_)
   refine Stop.go ?_
   cases B
   ·go_wp2
    go_ret
    refine⟨zCC ?_,zAA hb hb1⟩
    rw[zGQ (fun r=>!zAC r) l 0 k _ HK.out (by simp[HBB.out]) HNO.out];simp
   ·go_wp2
    refine⟨⟨k+1,by omega,by go_num,zAA hb hb1,?_⟩,by simp[intOf];omega⟩
    intro i y hi hy
    by_cases e:i=k
    ·subst e;rw[HK.out]at hy;cases hy;simp[HBB.out]
    ·exact HNO.out i y (by omega) hy
  ·go_wp2
   go_ret
   refine⟨zCC ?_,hb⟩
   rw[zEX]
   intro x hx
   obtain⟨i,hi,e⟩:=List.getElem_of_mem hx
   exact HNO.out i x (by have:=HN.out;omega) (by rw[List.getElem?_eq_getElem hi,e])
theorem containsInv(w:World)(a:Option Addr)(n cap:Nat)(l:List Rt)(hn:l.length=n)(hm:n<=maxLen)(H:zAX w a l):
 Calls Tryz.prog 80 #[.slice a n cap,.func (.func 154) #[] #[]] w fun e w'=>e=.returned (.bool (!l.all zAC))∧Below w.heap.size w w':=by
 have HC:=hid (indexInv w a n cap l hn hm H)
 have HG:=zIU (fun r=>!zAC r) l 0
 have HG':=hid HG
 clear hn H HG
 go_enter Tryz.func80,Tryz.ntmps80
 go_wp2_with (refine HC.out.mono ?_;rintro e w1 ⟨rfl,hb1⟩)
 go_ret
 refine⟨zAR ?_,hb1⟩
 rw[Bool.eq_iff_iff,decide_eq_true_iff,HG'.out,List.not_all_eq_any_not]
theorem lreading_c(w:World)(a a2:Option Addr)(n cap n2 cap2:Nat)(M:Mask)(y:List Int)(hn:M.length=n)(hn2:y.length=n2)(hm:n<=maxLen)(hm2:n2<=maxLen)(H:zAT w a M)(H2:zAJ w a2 y):
 Calls Tryz.prog 153 #[.slice a n cap,.slice a2 n2 cap2] w fun e w'=>e=.returned (.bool (decide (rdE M y=0)))∧Below w.heap.size w w':=by
 have HC:=hid (zJA w a a2 none n cap n2 cap2 0 0 M y [] hn hn2 rfl hm hm2 (by decide) H H2 (fun j hj=>by simp at hj))
 rw[<- rd_check]at HC
 obtain⟨E,hE⟩:=exq (rdE M y)
 rw[<- hE]at HC⊢
 clear hE hn hn2 H H2
 go_enter Tryz.func153,Tryz.ntmps153
 go_wp2_with (go_at_call 101;refine HC.out.mono ?_;rintro e w1 ⟨rfl,hb1⟩;refine Stop.of ?_)
 refine Stop.go ?_
 go_wp2
 go_ret
 exact⟨zAR (by rw[Bool.eq_iff_iff];simp),hb1⟩
end
end
section
section
open Go.RowKit Go.Lib
def zAD(x:List Rt)(k:Nat):Rt:=x[k]?.getD (0,1)
def sumR(r:List Int)(x:List Rt):Nat->Int×Int
 |0=>(0,1)
 |k+1=>if vec r k≠0 then((sumR r x k).1*(zAD x k).2+(sumR r x k).2*((zAD x k).1*vec r k),(sumR r x k).2*(zAD x k).2)else sumR r x k
theorem zKD{r:List Int}{x:List Rt}(h1:∀k,-1<=vec r k∧vec r k<=1)(hx:∀k,1<=(zAD x k).2∧(zAD x k).2<=400∧ -10000000000<=(zAD x k).1∧(zAD x k).1<=10000000000):
 ∀k:Nat,(sumR r x k).1.natAbs<=k*10000000000*400 ^ k∧1<=(sumR r x k).2∧(sumR r x k).2.natAbs<=400 ^ k
 |0=>by simp[sumR]
 |k+1=>by
  obtain⟨i1,i2,i3⟩:=zKD h1 hx k
  obtain⟨x1,x2,x3,x4⟩:=hx k
  have hv:=h1 k
  have hp:400 ^ (k+1)=400 ^ k*400:=Nat.pow_succ ..
  have hmono:400 ^ k<=400 ^ (k+1):=by rw[hp];omega
  rw[sumR]
  by_cases h0:vec r k≠0
  ·rw[if_pos h0]
   simp only[]
   generalize sumR r x k=s at i1 i2 i3
   generalize zAD x k=q at x1 x2 x3 x4
   obtain⟨s1,s2⟩:=s
   obtain⟨q1,q2⟩:=q
   simp only[]at*
   have e1:(s1*q2).natAbs<=k*10000000000*400 ^ k*400:=by
    rw[Int.natAbs_mul];exact Nat.mul_le_mul i1 (by omega)
   have e2:(s2*(q1*vec r k)).natAbs<=400 ^ k*10000000000:=by
    rw[Int.natAbs_mul]
    refine Nat.mul_le_mul i3 ?_
    rw[Int.natAbs_mul]
    have:q1.natAbs*(vec r k).natAbs<=10000000000*1:=Nat.mul_le_mul (by omega) (by omega)
    omega
   have e3:(s2*q2).natAbs<=400 ^ k*400:=by
    rw[Int.natAbs_mul];exact Nat.mul_le_mul i3 (by omega)
   refine⟨?_,?_,by rw[hp];exact e3⟩
   ·have e4:(k+1)*10000000000*400 ^ (k+1)=k*10000000000*400 ^ k*400+400 ^ k*10000000000*400:=by
     rw[hp]
     generalize 400 ^ k=P
     grind
    rw[e4]
    have e5:400 ^ k*10000000000<=400 ^ k*10000000000*400:=by omega
    omega
   ·have:=Int.mul_pos (show(0:Int)<s2 by omega) (show(0:Int)<q2 by omega)
    omega
  ·rw[if_neg h0]
   refine⟨?_,i2,Nat.le_trans i3 hmono⟩
   refine Nat.le_trans i1 ?_
   exact Nat.mul_le_mul (by omega) hmono
theorem zJE{r:List Int}{x:List Rt}(h1:∀k,-1<=vec r k∧vec r k<=1)(hx:∀k,1<=(zAD x k).2∧(zAD x k).2<=400∧ -10000000000<=(zAD x k).1∧(zAD x k).1<=10000000000){k:Nat}(hk:k<=10):
 (sumR r x k).1.natAbs<=10485760000000000000000000000000000000∧1<=(sumR r x k).2∧(sumR r x k).2.natAbs<=104857600000000000000000000:=by
 obtain⟨i1,i2,i3⟩:=zKD h1 hx k
 have hp:400 ^ k<=400 ^ 10:=Nat.pow_le_pow_right (by decide) hk
 have e10:(400:Nat) ^ 10=104857600000000000000000000:=by decide+kernel
 rw[e10]at hp
 refine⟨?_,i2,by omega⟩
 refine Nat.le_trans i1 ?_
 have:k*10000000000*400 ^ k<=10*10000000000*104857600000000000000000000:=Nat.mul_le_mul (by omega) hp
 omega
theorem sumR_bnd9{r:List Int}{x:List Rt}(h1:∀k,-1<=vec r k∧vec r k<=1)(hx:∀k,1<=(zAD x k).2∧(zAD x k).2<=400∧ -10000000000<=(zAD x k).1∧(zAD x k).1<=10000000000){k:Nat}(hk:k<=9):
 (sumR r x k).1.natAbs*400<=10485760000000000000000000000000000000∧(sumR r x k).2.natAbs*400<=104857600000000000000000000:=by
 obtain⟨i1,i2,i3⟩:=zKD h1 hx k
 have hp:400 ^ k<=400 ^ 9:=Nat.pow_le_pow_right (by decide) hk
 have e9:(400:Nat) ^ 9=262144000000000000000000:=by decide+kernel
 rw[e9]at hp
 refine⟨?_,by omega⟩
 have:k*10000000000*400 ^ k<=9*10000000000*262144000000000000000000:=Nat.mul_le_mul (by omega) hp
 omega
def zDB(M:Mask)(x:List Rt)(y:List Int):Bool:=
 decide (rdE M y=0)&&(decide (x.length=zAL M)&&(x.all zAC&&decide (∀i,i<M.length->(sumR (M[i]?.getD []) x (zAL M)).1=(sumR (M[i]?.getD []) x (zAL M)).2*vec y i)))
theorem mk_no1{M:Mask}{x:List Rt}{y:List Int}(h:rdE M y≠0):zDB M x y=false:=by unfold zDB;rw[decide_eq_false h];rfl
theorem mk_no2{M:Mask}{x:List Rt}{y:List Int}(h:x.length≠zAL M):zDB M x y=false:=by unfold zDB;rw[decide_eq_false h];simp
theorem mk_no3{M:Mask}{x:List Rt}{y:List Int}(h:x.all zAC=false):zDB M x y=false:=by unfold zDB;rw[h];simp
theorem mk_no4{M:Mask}{x:List Rt}{y:List Int}{i:Nat}(hi:i<M.length)(h:(sumR (M[i]?.getD []) x (zAL M)).1≠(sumR (M[i]?.getD []) x (zAL M)).2*vec y i):zDB M x y=false:=by
 have:decide (∀i,i<M.length->(sumR (M[i]?.getD []) x (zAL M)).1=(sumR (M[i]?.getD []) x (zAL M)).2*vec y i)=false:=decide_eq_false fun hh=>h (hh i hi)
 unfold zDB;rw[this];simp
theorem mk_yes{M:Mask}{x:List Rt}{y:List Int}(h1:rdE M y=0)(h2:x.length=zAL M)(h3:x.all zAC=true)(h4:∀i,i<M.length->(sumR (M[i]?.getD []) x (zAL M)).1=(sumR (M[i]?.getD []) x (zAL M)).2*vec y i):zDB M x y=true:=by
 unfold zDB;rw[decide_eq_true h1,decide_eq_true h2,h3,decide_eq_true h4];rfl
def SumB(w:World)(g:Nat)(n d:Int):Prop:=w.heap[g]? =some (.cells #[.int .i64 (n/18446744073709551616),.int .u64 (n%18446744073709551616),.int .i64 (d/18446744073709551616),.int .u64 (d%18446744073709551616)] 102 (0,0))
theorem SumB.lt{w:World}{g:Nat}{n d:Int}(h:SumB w g n d):g<w.heap.size:=(Array.getElem?_eq_some_iff.1 h).1
theorem SumB.keep{w w':World}{g:Nat}{n d:Int}(h:SumB w g n d)(hk:w'.heap[g]? =w.heap[g]?):SumB w' g n d:=hk.trans h
theorem SumB.cells{w:World}{g:Nat}{n d n1 n2 d1 d2:Int}(h:SumB w g n d)(pn:WP n n1 n2)(pd:WP d d1 d2):w.cell? ⟨g,0,none⟩=some (.int .i64 n1)∧w.cell? ⟨g,1,none⟩=some (.int .u64 n2)∧w.cell? ⟨g,2,none⟩=some (.int .i64 d1)∧w.cell? ⟨g,3,none⟩=some (.int .u64 d2)∧∀o,w.frozen? ⟨g,o,none⟩=false:=by
 unfold SumB at h
 rw[pn.1,pn.2,pd.1,pd.2]
 exact⟨by simp[World.cell?,h],by simp[World.cell?,h],by simp[World.cell?,h],by simp[World.cell?,h],fun o=>by simp[World.frozen?,h]⟩
theorem SumB.set{w:World}{g:Nat}{n d m e a b c f:Int}(h:SumB w g n d)(pm:WP m a b)(pe:WP e c f):SumB ((((w.setCell ⟨g,0,none⟩ (.int .i64 a)).setCell ⟨g,1,none⟩ (.int .u64 b)).setCell ⟨g,2,none⟩ (.int .i64 c)).setCell ⟨g,3,none⟩ (.int .u64 f)) g m e:=by
 unfold SumB
 rw[zAQ (zAQ (zAQ (zAQ h 0 _) 1 _) 2 _) 3 _,pm.1,pm.2,pe.1,pe.2]
 simp
theorem SumB.made(w:World){n d a b c f:Int}(pn:WP n a b)(pd:WP d c f):SumB (w.alloc (.cells #[.int .i64 a,.int .u64 b,.int .i64 c,.int .u64 f] 102)) w.heap.size n d:=by
 unfold SumB
 rw[World.alloc_heap_new,pn.1,pn.2,pd.1,pd.2]
theorem lmakes_c(w:World)(a a2 a3:Option Addr)(n cap n2 cap2 n3 cap3:Nat)(M:Mask)(x:List Rt)(y:List Int)(hn:M.length=n)(hn2:x.length=n2)(hn3:y.length=n3)(hm:n<=maxLen)(hm2:n2<=maxLen)(hm3:n3<=maxLen)(H:zAT w a M)(H2:zAX w a2 x)(H3:zAJ w a3 y):
 Calls Tryz.prog 84 #[.slice a n cap,.slice a2 n2 cap2,.slice a3 n3 cap3] w fun e w'=>e=.returned (.bool (zDB M x y))∧Below w.heap.size w w':=by
 have HRD:=hid (lreading_c w a a3 n cap n3 cap3 M y hn hn3 hm hm3 H H3)
 have HN1:=hid (mk_no1 (M:=M) (x:=x) (y:=y))
 have HN2:=hid (mk_no2 (M:=M) (x:=x) (y:=y))
 have HN3:=hid (mk_no3 (M:=M) (x:=x) (y:=y))
 obtain⟨B,hB⟩:=exq (zDB M x y)
 rw[<- hB]at HN1 HN2 HN3⊢
 by_cases h0:rdE M y=0
 rotate_left
 ·rw[decide_eq_false h0]at HRD
  obtain rfl:B=false:=HN1.out h0
  clear hn hn2 hn3 H H2 H3 hB h0 HN2 HN3
  go_enter Tryz.func84,Tryz.ntmps84
  go_wp2_with (go_at_call 153;refine HRD.out.mono ?_;rintro e w1 ⟨rfl,hb1⟩)
  go_ret
  exact⟨rfl,hb1⟩
 rw[decide_eq_true h0]at HRD
 obtain⟨hok,hyl,hmil⟩:=rd_ok h0
 obtain⟨hM,h1,h6,hc1,hc10⟩:=zFA hok
 obtain⟨b,off,ra,rc,rfl,hb,hc⟩:=zFL H (by omega)
 have HCC:=hid (fun(X:World) (hX:Below w.heap.size w X)=>show X.cell? ⟨b,off,none⟩=some (.slice ra (zAL M) rc)from(hX.cell (p:=⟨b,off,none⟩) hb).trans hc)
 have HN4:=hid (fun i (hi:i<M.length) h=>mk_no4 (x:=x) (y:=y) hi h)
 have HYS:=hid (fun h2 h3 h4=>mk_yes (M:=M) (x:=x) (y:=y) h0 h2 h3 h4)
 rw[<- hB]at HYS HN4
 have i0:(0:Int)<(n:Int):=by omega
 have HCI:=hid (fun(X:World) (hX:Below w.heap.size w X)=>containsInv X a2 n2 cap2 x hn2 hm2 (H2.below hX))
 have HRW:=hid (fun(X:World) (hX:Below w.heap.size w X)=>H.below hX)
 have HXI:=hid (fun(X:World) (hX:Below w.heap.size w X)=>H2.below hX)
 have HYI:=hid (fun(X:World) (hX:Below w.heap.size w X)=>H3.below hX)
 have HMW:=hid (show ∀r∈M,r.length=zAL M∧∀k,-1<=vec r k∧vec r k<=1 from fun r hr=>⟨hM.wid r hr,hM.one r hr⟩)
 have HYB:=hid (mil_le hmil)
 have HN:=hid hn
 have HNX:=hid hn2
 have HNY:=hid hn3
 have HHN:=hid (show n3=n by omega)
 have hn6:n<=6:=by omega
 obtain⟨W,hW⟩:=exq (zAL M)
 rw[<- hW]at HCC HN2 HN4 HYS HMW hc10 hc1
 clear hn hn2 hn3 H H2 H3 hB h0 hok hyl hmil hM h1 h6 hb hc HN1 hW
 by_cases hlw:n2=W
 rotate_left
 ·obtain rfl:B=false:=HN2.out (by rw[HNX.out];exact hlw)
  have hlb:((n2:Int) !=(W:Int))=true:=by simp;omega
  clear HN3 HN4 HYS HCI HRW HXI HYI HMW HYB
  go_enter Tryz.func84,Tryz.ntmps84
  go_wp2_with (go_at_call 153;refine HRD.out.mono ?_;rintro e w1 ⟨rfl,hb1⟩;refine Stop.of ?_)
  refine Stop.go ?_
  have cc:=HCC.out _ hb1
  go_wp2
  go_ret
  exact⟨rfl,hb1⟩
 subst hlw
 have hlb:((n2:Int) !=(n2:Int))=false:=by simp
 obtain⟨V,hV⟩:=exq (!x.all zAC)
 rw[<- hV]at HCI
 have HVV:=hid hV.symm
 clear hV
 go_enter Tryz.func84,Tryz.ntmps84
 go_wp2_with (go_at_call 153;refine HRD.out.mono ?_;rintro e w1 ⟨rfl,hb1⟩;refine Stop.of ?_)
 refine Stop.go ?_
 have cc:=HCC.out _ hb1
 have HB1:=hid hb1
 have HCI1:=hid (HCI.out _ hb1)
 clear hb1 HCI HRD
 go_wp2_with (go_at_call 80;refine HCI1.out.mono ?_;rintro e w2 ⟨rfl,hb2⟩;refine Stop.of ?_)
 refine Stop.go ?_
 have HB2:=hid (zAA HB1.out hb2)
 clear hb2 HB1 HCI1 cc HCC
 cases V
 rotate_left
 ·obtain rfl:B=false:=HN3.out (by have:=HVV.out;simpa using this)
  go_wp2
  go_ret
  exact⟨rfl,HB2.out⟩
 ·have hall:x.all zAC=true:=by have:=HVV.out;simpa using this
  have hxv:∀k,1<=(zAD x k).2∧(zAD x k).2<=400∧ -10000000000<=(zAD x k).1∧(zAD x k).1<=10000000000:=fun k=>by
   unfold zAD
   cases e:x[k]? with
   |none=>decide
   |some r=>
    have:=List.all_eq_true.1 hall r (List.mem_of_getElem? e)
    rw[zAO]at this
    exact⟨this.1,this.2.1,this.2.2.1,this.2.2.2.1⟩
  have HXV:=hid hxv
  have HYS2:=hid (HYS.out HNX.out hall)
  clear hall hxv HN2 HN3 HYS HVV
  go_wp2
  go_loopw [31] (fun i wr=>∃k:Nat,k<=n∧i=.int .i64 k∧Below w.heap.size w wr∧Hid (∀q,q<k->(sumR (M[q]?.getD []) x n2).1=(sumR (M[q]?.getD []) x n2).2*vec y q)) (fun i _=>n-(intOf i).toNat)
  case atStart=>exact⟨0,Nat.zero_le _,rfl,HB2.out,hid (fun q h=>by omega)⟩
  case round=>
   obtain⟨k,hk,rfl,hbk,HQ⟩:=hrel
   by_cases hlt:k<n
   ·have hkM:k<M.length:=by rw[HN.out];exact hlt
    obtain⟨b5,o5,ra5,rn5,rc5,e5,hb5,hc5,hrn5,hrm5,hri5⟩:=(HRW.out wr hbk) k hkM
    cases e5
    obtain⟨hwid,hone⟩:=HMW.out _ (List.getElem_mem hkM)
    obtain rfl:rn5=n2:=by omega
    have hrowe:M[k]?.getD []=M[k]:=by rw[List.getElem?_eq_getElem hkM];rfl
    have HNK:=hid (HN4.out k hkM)
    rw[hrowe]at HNK
    have HQX:=hid (fun(h:(sumR M[k] x rn5).1=(sumR M[k] x rn5).2*vec y k)=>show ∀q,q<k+1->(sumR (M[q]?.getD []) x rn5).1=(sumR (M[q]?.getD []) x rn5).2*vec y q from fun q hq=>by
     rcases Nat.lt_or_ge q k with h3|h3
     ·exact HQ.out q h3
     ·obtain rfl:q=k:=by omega
      rw[hrowe];exact h)
    obtain⟨R,hR⟩:=exq (M[k])
    rw[<- hR]at hri5 hone hwid HNK HQX
    have HBD:=hid (fun j (hj:j<=10)=>zJE hone HXV.out hj)
    have HBD9:=hid (fun j (hj:j<=9)=>sumR_bnd9 hone HXV.out hj)
    have HRI:=hid (fun(X:World) (hX:Below wr.heap.size wr X)=>hri5.below hX)
    have HONE:=hid hone
    have HWID:=hid hwid
    have HBK:=hid hbk
    have i1:(k:Int)<(n:Int):=by omega
    clear hR hrowe hri5 hrn5 hkM hone hwid hbk HN4 HQ
    go_wp2_with (go_at_call 95;refine(zHW _).mono ?_;rintro e w3 ⟨rfl,hb3⟩;refine Stop.of ?_)
    refine Stop.go ?_
    have hz:sumV 0 1=.agg #[.int .i64 0,.int .u64 0,.int .i64 0,.int .u64 1]:=by simp[sumV]
    rw[hz]
    clear hz
    go_wp2_with fail
    obtain⟨wb,hwb⟩:=exq (w3.alloc (.cells #[.int .i64 0,.int .u64 0,.int .i64 0,.int .u64 1] 102))
    obtain⟨g,hg⟩:=exq (w3.heap.size)
    have hsb:SumB wb g 0 1:=by rw[hwb,hg];exact SumB.made w3 ⟨by decide,by decide⟩ ⟨by decide,by decide⟩
    have hbb:Below w3.heap.size w3 wb:=by rw[hwb];exact(Below.refl _ _).alloc (Nat.le_refl _) _
    rw[<- hwb,<- hg]
    have HSB:=hid hsb
    have HBB:=hid hbb
    have HB3:=hid hb3
    have HG:=hid hg
    clear hwb hg hsb hbb hb3
    obtain⟨wo,hwo⟩:=exq (wr)
    subst hwo
    go_loopw [39] (fun i wr=>∃t:Nat,t<=rn5∧i=.int .i64 t∧SumB wr g (sumR R x t).1 (sumR R x t).2∧Below w3.heap.size w3 wr) (fun i _=>rn5-(intOf i).toNat)
    case atStart=>exact⟨0,Nat.zero_le _,rfl,HSB.out,HBB.out⟩
    case round=>
     obtain⟨t,ht,rfl,hsb,hbt⟩:=hrel
     by_cases htl:t<rn5
     ·have hbw:Below wo.heap.size wo wr:=HB3.out.trans (hbt.mono HB3.out.size)
      obtain⟨b6,o6,rfl,hb6,hc6⟩:=(HRI.out wr hbw) t (by rw[HWID.out];exact htl)
      have hv6:R[t]?.getD 0=vec R t:=rfl
      rw[hv6]at hc6
      have hone:=HONE.out t
      have hsr:sumR R x (t+1)=if vec R t≠0 then((sumR R x t).1*(zAD x t).2+(sumR R x t).2*((zAD x t).1*vec R t),(sumR R x t).2*(zAD x t).2)else sumR R x t:=rfl
      obtain⟨v,hv⟩:=exq (vec R t)
      rw[<- hv]at hc6 hsr hone
      by_cases h0:v=0
      ·rw[if_neg (by simp[h0])]at hsr
       have hvb:(v !=0)=false:=by simp[h0]
       have HSR:=hid hsr
       have HSX:=hid hsb
       have HBT:=hid hbt
       clear hv6 hv hsr hsb hbt hbw
       go_wp2
       refine⟨⟨t+1,by omega,by go_num,by rw[HSR.out];exact HSX.out,HBT.out⟩,by simp[intOf];omega⟩
      ·rw[if_pos h0]at hsr
       have hvb:(v !=0)=true:=by simp[h0]
       obtain⟨k1,k2,k3⟩:=HBD.out t (by omega)
       obtain⟨m1,m2,m3⟩:=HBD.out (t+1) (by omega)
       obtain⟨z1,z2⟩:=HBD9.out t (by omega)
       obtain⟨x1,x2,x3,x4⟩:=HXV.out t
       obtain⟨bx,ox,rfl,hbx,hx0,hx1⟩:=(HXI.out wr (zAA HBK.out hbw)) t (by rw[HNX.out];exact htl)
       have hxt:zAD x t=x[t]'(by rw[HNX.out];exact htl):=by unfold zAD;rw[List.getElem?_eq_getElem (by rw[HNX.out];exact htl)];rfl
       rw[<- hxt]at hx0 hx1
       rw[hsr]at m1 m2 m3
       have HSR:=hid hsr
       obtain⟨⟨N,D⟩,hND⟩:∃q,q=zAD x t:=⟨_,rfl⟩
       rw[<- hND]at hx0 hx1 m1 m2 m3 x1 x2 x3 x4 HSR
       obtain⟨⟨sn,sd⟩,hS⟩:∃q,q=sumR R x t:=⟨_,rfl⟩
       rw[<- hS]at hsb k1 k2 k3 m1 m2 m3 z1 z2 HSR
       simp only[]at hx0 hx1 m1 m2 m3 x1 x2 x3 x4 HSR hsb k1 k2 k3 z1 z2
       have e1:(sn*D).natAbs<=10485760000000000000000000000000000000:=by
        rw[Int.natAbs_mul]
        have:sn.natAbs*D.natAbs<=sn.natAbs*400:=Nat.mul_le_mul_left _ (by omega)
        omega
       have e2:(sd*(N*v)).natAbs<=104857600000000000000000000*10000000000:=by
        rw[Int.natAbs_mul,Int.natAbs_mul]
        exact Nat.mul_le_mul k3 (by have:N.natAbs*v.natAbs<=10000000000*1:=Nat.mul_le_mul (by omega) (by omega);omega)
       have e3: -10000000000<=N*v∧N*v<=10000000000:=by
        have:(N*v).natAbs<=10000000000*1:=by rw[Int.natAbs_mul];exact Nat.mul_le_mul (by omega) (by omega)
        omega
       have HPL:=hid (fun(X:World)=>zGH X sn sd N D v (by unfold B127;omega) (by unfold B127;omega) (by omega) (by omega) (by unfold B127;omega) (by unfold B127;omega) (by unfold B127;omega) (by unfold B127;omega))
       obtain⟨n1,n2,pn⟩:=WP.ex sn
       obtain⟨d1,d2,pd⟩:=WP.ex sd
       obtain⟨s1,s2,pS⟩:=WP.ex (sn*D+sd*(N*v))
       obtain⟨q1,q2,pC⟩:=WP.ex (sd*D)
       rw[pn.sum pd,pS.sum pC]at HPL
       simp only[ratV]at HPL
       have HSS:=hid (fun(X:World) (hX:SumB X g sn sd)=>hX.set pS pC)
       have hcel:=hsb.cells pn pd
       have hgl:=hsb.lt
       have HSX:=hid hsb
       have HBT:=hid hbt
       have HS:=hid (fun(X:World) (hX:Below wr.heap.size wr X)=>show X.cell? ⟨g,0,none⟩=some (.int .i64 n1)∧X.cell? ⟨g,1,none⟩=some (.int .u64 n2)∧X.cell? ⟨g,2,none⟩=some (.int .i64 d1)∧X.cell? ⟨g,3,none⟩=some (.int .u64 d2)∧X.cell? ⟨bx,ox+t*2,none⟩=some (.int .i64 N)∧X.cell? ⟨bx,ox+t*2+1,none⟩=some (.int .i64 D)from
        ⟨(hX.cell (p:=⟨g,0,none⟩) hgl).trans hcel.1,(hX.cell (p:=⟨g,1,none⟩) hgl).trans hcel.2.1,(hX.cell (p:=⟨g,2,none⟩) hgl).trans hcel.2.2.1,(hX.cell (p:=⟨g,3,none⟩) hgl).trans hcel.2.2.2.1,(hX.cell (p:=⟨bx,_,none⟩) hbx).trans hx0,(hX.cell (p:=⟨bx,_,none⟩) hbx).trans hx1⟩)
       have htl2:(t:Int)<(rn5:Int):=by omega
       clear hv6 hv hsr hsb hbt hbw k1 k2 k3 m1 m2 m3 z1 z2 x1 x2 x3 x4 e1 e2 e3 hND hS pn pd pS pC hcel hx0 hx1 hxt
       go_wp2
       refine zAG (fun j' X=>decide (j'<=6)=true->X.cell? ⟨g,0,none⟩=some (.int .i64 n1)∧X.cell? ⟨g,1,none⟩=some (.int .u64 n2)∧X.cell? ⟨g,2,none⟩=some (.int .i64 d1)∧X.cell? ⟨g,3,none⟩=some (.int .u64 d2)∧X.cell? ⟨bx,ox+t*2,none⟩=some (.int .i64 N)∧X.cell? ⟨bx,ox+t*2+1,none⟩=some (.int .i64 D)) (by kernel_rfl) ?_
       have hbd:Below wr.heap.size wr wr.drew:=(Below.refl _ _).drew
       have HSXd:=hid (HSX.out.keep (w':=wr.drew) rfl)
       generalize wr.drew=wd at hbd HSXd⊢
       refine AnyT.tD (i:=0) (v:=.agg #[.int .i64 n1,.int .u64 n2,.int .i64 d1,.int .u64 d2]) rfl rfl (by rintro w' ⟨y1,y2,y3,y4,y5,y6⟩;go_simp) (HS.out _ hbd) ?_;go_frame
       refine AnyT.tD (i:=1) (v:=.slice (some ⟨bx,ox,none⟩) rn5 cap2) rfl rfl (by rintro w' ⟨y1,y2,y3,y4,y5,y6⟩;go_simp) (HS.out _ hbd) ?_;go_frame
       refine AnyT.tD (i:=2) (v:=.int .i64 t) rfl rfl (by rintro w' ⟨y1,y2,y3,y4,y5,y6⟩;go_simp) (HS.out _ hbd) ?_;go_frame
       refine AnyT.tD (i:=3) (v:=.pointer (some ⟨bx,ox+t*2,none⟩)) rfl rfl (by rintro w' ⟨y1,y2,y3,y4,y5,y6⟩;go_simp) (HS.out _ hbd) ?_;go_frame
       refine AnyT.tD (i:=4) (v:=.agg #[.int .i64 N,.int .i64 D]) rfl rfl (by rintro w' ⟨y1,y2,y3,y4,y5,y6⟩;go_simp) (HS.out _ hbd) ?_;go_frame
       refine AnyT.tD (i:=5) (v:=.int .i64 v) rfl rfl (by rintro w' ⟨y1,y2,y3,y4,y5,y6⟩;go_simp) (HS.out _ hbd) ?_;go_frame
       refine AnyT.nx (i:=6) rfl ?_
       go_wp2_with (go_at_call 96;refine(HPL.out _).mono ?_;rintro e w4 ⟨rfl,hb4⟩;refine Stop.of ?_)
       refine Stop.go ?_
       have HB4:=hid (zAA hbd hb4)
       have hs4:=HSXd.out.keep (hb4.block g HSXd.out.lt)
       obtain⟨y1,y2,y3,y4,y5,y6⟩:=HS.out _ HB4.out
       have hfz:∀o,w4.frozen? ⟨g,o,none⟩=false:=by
        obtain⟨_,_,p1⟩:=WP.ex sn
        obtain⟨_,_,p2⟩:=WP.ex sd
        exact(hs4.cells p1 p2).2.2.2.2
       have f0:=hfz 0
       have f1:=hfz 1
       have f2:=hfz 2
       have f3:=hfz 3
       have HST:=hid (HSS.out w4 hs4)
       have hg4:g<w4.heap.size:=hs4.lt
       have HBE:=hid (show Below w3.heap.size w3 ((((w4.setCell ⟨g,0,none⟩ (.int .i64 s1)).setCell ⟨g,1,none⟩ (.int .u64 s2)).setCell ⟨g,2,none⟩ (.int .i64 q1)).setCell ⟨g,3,none⟩ (.int .u64 q2))from by
        have hg3:w3.heap.size<=g:=by rw[HG.out];exact Nat.le_refl _
        exact zAE (zAE (zAE (zAE (HBT.out.trans (HB4.out.mono HBT.out.size)) hg3 0 _) hg3 1 _) hg3 2 _) hg3 3 _)
       clear hs4 hfz HSS HPL hb4 HSXd hbd
       go_wp2
       refine⟨fun _=>HS.out _ HB4.out,?_⟩
       refine AnyT.nx (i:=7) rfl ?_
       go_wp2
       refine⟨fun h=>absurd h (by decide),?_⟩
       refine AnyT.done (by kernel_rfl) ?_ _
       go_wp2
       refine⟨⟨t+1,by omega,by go_num,?_,HBE.out⟩,by simp[intOf];omega⟩
       rw[HSR.out]
       exact HST.out
     ·obtain rfl:t=rn5:=by omega
      have hbw:Below wo.heap.size wo wr:=HB3.out.trans (hbt.mono HB3.out.size)
      obtain⟨k1,k2,k3⟩:=HBD.out t (by omega)
      have hkY:k<y.length:=by rw[HNY.out,HHN.out];exact hlt
      obtain⟨by7,oy7,rfl,hby,hcy⟩:=(HYI.out wr (zAA HBK.out hbw)) k hkY
      have hvy:y[k]?.getD 0=vec y k:=rfl
      rw[hvy]at hcy
      have hyb:=zEC (P:=fun z=> -1000000<=z∧z<=1000000) (by decide) HYB.out k
      obtain⟨yv,hyv⟩:=exq (vec y k)
      rw[<- hyv]at hcy hyb HNK HQX
      obtain⟨⟨sn,sd⟩,hS⟩:∃q,q=sumR R x t:=⟨_,rfl⟩
      rw[<- hS]at hsb k1 k2 k3 HNK HQX
      simp only[]at hsb k1 k2 k3 HNK HQX
      have e2:(sd*yv).natAbs<=104857600000000000000000000*1000000:=by
       rw[Int.natAbs_mul]
       exact Nat.mul_le_mul k3 (by omega)
      have HCP:=hid (fun(X:World)=>zGK X sn sd yv (by unfold B127;omega) (by omega) (by unfold B127;omega))
      obtain⟨n1,n2,pn⟩:=WP.ex sn
      obtain⟨d1,d2,pd⟩:=WP.ex sd
      rw[pn.sum pd]at HCP
      obtain⟨z0,z1,z2,z3,_⟩:=hsb.cells pn pd
      have l0:=zAM hsb.lt z0
      have l1:=zAM hsb.lt z1
      have l2:=zAM hsb.lt z2
      have l3:=zAM hsb.lt z3
      have l4:=zAM hby hcy
      have hcz:(cmpI sn (sd*yv)=0↔sn=sd*yv):=by unfold cmpI;split<;>(try split)<;>omega
      obtain⟨cv,hcv⟩:=exq (cmpI sn (sd*yv))
      rw[<- hcv]at HCP hcz
      have HCZ:=hid hcz
      have HBT:=hid (zAA HBK.out hbw)
      have i3:(k:Int)<(n3:Int):=by have:=HHN.out;omega
      have i4:(0:Int)<=(k:Int):=by omega
      clear hbw hkY hvy hyv hS hsb k1 k2 k3 e2 pn pd z0 z1 z2 z3 hcv hcz hcy hbt hyb
      go_wp2
      refine zCI (by kernel_rfl) (by kernel_rfl) ?_
      repeat (go_big_quiet_step ((go_at_call 155;exact zBJ (HCP.out _))))
      refine wpQuiet_nil ?_
      rintro _ ⟨X,rfl⟩
      have HFB:=hid (zAA HBT.out (zBZ wr X))
      clear l0 l1 l2 l3 l4
      by_cases hc0:cv=0
      ·have hcb:(cv !=0)=false:=by simp[hc0]
       have HX:=hid (HQX.out (HCZ.out.1 hc0))
       go_wp2
       exact⟨⟨k+1,by omega,by go_num,HFB.out,HX⟩,by simp[intOf];omega⟩
      ·have hcb:(cv !=0)=true:=by simp[hc0]
       obtain rfl:B=false:=HNK.out (fun h=>hc0 (HCZ.out.2 h))
       go_wp2
       go_ret
       exact⟨rfl,HFB.out⟩
   ·obtain rfl:k=n:=by omega
    obtain rfl:B=true:=HYS2.out (fun i hi=>HQ.out i (by have:=HN.out;omega))
    go_wp2
    go_ret
    exact⟨rfl,hbk⟩
end
section
open Go.RowKit Go.Lib
end
section
def denP(x:List Rt):Nat->Int
 |0=>1
 |k+1=>denP x k*(zAD x k).2
theorem denP_ne{x:List Rt}(h:∀k,(zAD x k).2≠0):∀k,denP x k≠0
 |0=>by show(1:Int)≠0;decide
 |k+1=>Int.mul_ne_zero (denP_ne h k) (h k)
theorem denP_dvd(x:List Rt):∀(k i:Nat),i<k->(zAD x i).2∣denP x k
 |0,i,h=>by omega
 |k+1,i,h=>by
  by_cases e:i=k
  ·subst e;exact⟨denP x i,Int.mul_comm _ _⟩
  ·obtain⟨c,hc⟩:=denP_dvd x k i (by omega)
   exact⟨c*(zAD x k).2,by rw[denP,hc];grind⟩
def numP(x:List Rt)(W i:Nat):Int:=(zAD x i).1*(denP x W/(zAD x i).2)
theorem numP_eq{x:List Rt}{W i:Nat}(hi:i<W):numP x W i*(zAD x i).2=(zAD x i).1*denP x W:=by
 have h2:=Int.ediv_mul_cancel (denP_dvd x W i hi)
 unfold numP
 rw[Int.mul_assoc,h2]
end
end
end Go.Proofs.YtlffndehhhpgjaaGreat
