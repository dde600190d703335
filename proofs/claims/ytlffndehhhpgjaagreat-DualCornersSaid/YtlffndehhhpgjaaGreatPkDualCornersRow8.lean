/- Walks and plain laws for DualCornersRow, part 8. -/
import Derived.Shelf.Bits.Mul64
import Derived.Shelf.Spec.BitsCarry
import Derived.Laws.Externs
import Derived.BigQuiet
import Derived.Test.YtlffndehhhpgjaaGreatPkDualCornersRow7
namespace Go.Proofs.YtlffndehhhpgjaaGreat
set_option linter.unusedVariables false
set_option linter.unusedSimpArgs false
set_option maxRecDepth 100000
set_option maxHeartbeats 4000000
section
section
open Go.RowKit Go.Lib
def zCJ(V:Int):Value:=.agg #[.int .i64 (V/18446744073709551616),.int .u64 (V%18446744073709551616)]
def cmpI(V U:Int):Int:=if V<U then-1 else if V=U then 0 else 1
theorem size_c(w:World)(n:Int)(h: -9223372036854775808<=n∧n<=9223372036854775807):Calls Tryz.prog 210 #[.int .i64 n] w fun e w'=>e=.returned (.int .u64 (n.natAbs:Nat))∧w=w':=by
 obtain⟨m,hm⟩:∃m:Int,m=(n.natAbs:Nat):=⟨_,rfl⟩
 rw[<- hm]
 by_cases h0:n<0
 ·have h1:IntKind.u64.wrap n=18446744073709551616+n:=by rw[IntKind.wrap_u64];omega
  have h2:IntKind.u64.wrap (-(18446744073709551616+n))=m:=by rw[IntKind.wrap_u64];omega
  clear hm
  go_enter Tryz.func210,Tryz.ntmps210
  go_wp2
  go_ret
  exact⟨rfl,rfl⟩
 ·have h1:IntKind.u64.wrap n=m:=by rw[IntKind.wrap_u64];omega
  clear hm
  go_enter Tryz.func210,Tryz.ntmps210
  go_wp2
  go_ret
  exact⟨rfl,rfl⟩
theorem mul64_c(x y:Nat)(hx:x<18446744073709551616)(hy:y<18446744073709551616)(w:World):
 Calls Tryz.prog 209 #[.int .u64 x,.int .u64 y] w fun e w'=>e=.returned (.tuple #[.int .u64 ((x*y/18446744073709551616:Nat):Int),.int .u64 ((x*y%18446744073709551616:Nat):Int)])∧w=w':=by
 obtain⟨bd,bt,bw,hhi⟩:=mul64_hi x y hx hy
 have ba:=half_mul_le (a:=x/4294967296) (b:=y/4294967296) (by omega) (by omega)
 have bb:=half_mul_le (a:=x/4294967296) (b:=y%4294967296) (by omega) (by omega)
 have bc:=half_mul_le (a:=x%4294967296) (b:=y/4294967296) (by omega) (by omega)
 have ba':x/4294967296*(y/4294967296)<18446744073709551616:=by omega
 have bb':x/4294967296*(y%4294967296)<18446744073709551616:=by omega
 have bc':x%4294967296*(y/4294967296)<18446744073709551616:=by omega
 have bh1:x/4294967296*(y/4294967296)+(x/4294967296*(y%4294967296)+x%4294967296*(y%4294967296)/4294967296)/4294967296<18446744073709551616:=by omega
 have bh:x/4294967296*(y/4294967296)+(x/4294967296*(y%4294967296)+x%4294967296*(y%4294967296)/4294967296)/4294967296+((x/4294967296*(y%4294967296)+x%4294967296*(y%4294967296)/4294967296)%4294967296+x%4294967296*(y/4294967296))/4294967296<18446744073709551616:=by omega
 go_enter Tryz.func209,Tryz.ntmps209
 go_wp2
 simp only[Mul64.maskN x hx,Mul64.maskN y hy,Mul64.divN,Mul64.mulN,Mul64.addN,Mul64.wrapN _ bd,Mul64.wrapN _ bb',Mul64.wrapN _ bt,Mul64.maskN _ bt,Mul64.wrapN _ bc',Mul64.wrapN _ bw,Mul64.wrapN _ ba',Mul64.wrapN _ bh1,Mul64.wrapN _ bh,Mul64.wrapM (x*y)]
 rw[hhi]
 go_ret2
 exact⟨rfl,rfl⟩
theorem sub64(x y b:Int)(hx:0<=x)(hy:0<=y)(hy':y<18446744073709551616)(hb0:0<=b)(hb:b<=1)(w:World):(callFunc 208 #[.int .u64 x,.int .u64 y,.int .u64 b]).run Tryz.prog w=
 .ok (.value (.tuple #[.int .u64 ((x-y-b)%18446744073709551616),.int .u64 (if x<y+b then 1 else 0)])) w:=by
 obtain⟨x,rfl⟩:=Int.eq_ofNat_of_zero_le hx
 obtain⟨y,rfl⟩:=Int.eq_ofNat_of_zero_le hy
 obtain⟨b,rfl⟩:=Int.eq_ofNat_of_zero_le hb0
 have e1:(((x+18446744073709551616-y-b)%18446744073709551616:Nat):Int)=((x:Int)-y-b)%18446744073709551616:=by omega
 have e2:((if x<y+b then 1 else 0:Nat):Int)=if (x:Int)<y+b then 1 else 0:=by split<;>split<;>omega
 rw[<- e1,<- e2]
 rw[run_callFunc_extern Tryz.func208 (by kernel_rfl) (by kernel_rfl) (by kernel_rfl) (e:=sub64Entry) (by kernel_rfl),run_sub64 x y b (by omega)]
 rfl
theorem sub64_0(x y:Int)(hx:0<=x)(hy:0<=y)(hy':y<18446744073709551616)(w:World):(callFunc 208 #[.int .u64 x,.int .u64 y,.int .u64 0]).run Tryz.prog w=
 .ok (.value (.tuple #[.int .u64 ((x-y)%18446744073709551616),.int .u64 (if x<y then 1 else 0)])) w:=by
 simpa using sub64 x y 0 hx hy hy' (Int.le_refl 0) (by decide) w
theorem opp_c(w:World)(h l:Int)(h0:0<=h)(h1:h<=4611686018427387904)(l0:0<=l)(l1:l<18446744073709551616):
 Calls Tryz.prog 149 #[.agg #[.int .i64 h,.int .u64 l]] w fun e w'=>e=.returned (zCJ (-(h*18446744073709551616+l)))∧Below w.heap.size w w':=by
 obtain⟨b,hb⟩:∃b:Int,b=if (0:Int)<l then 1 else 0:=⟨_,rfl⟩
 have b0:0<=b:=by rw[hb];split<;>decide
 have b1:b<=1:=by rw[hb];split<;>decide
 have hL:(0-l)%18446744073709551616=(-(h*18446744073709551616+l))%18446744073709551616:=by omega
 have hH:IntKind.i64.wrap ((0-h-b)%18446744073709551616)=(-(h*18446744073709551616+l))/18446744073709551616:=by
  rw[IntKind.wrap_i64]
  rcases Int.lt_or_le 0 l with hl|hl
  ·rw[if_pos hl]at hb;subst hb;omega
  ·rw[if_neg (by omega)]at hb;subst hb;omega
 have hu:IntKind.u64.wrap h=h:=by rw[IntKind.wrap_u64];omega
 have s1:∀w,(callFunc 208 #[.int .u64 0,.int .u64 l,.int .u64 0]).run Tryz.prog w=.ok (.value (.tuple #[.int .u64 ((-(h*18446744073709551616+l))%18446744073709551616),.int .u64 b])) w:=fun w=>by
  rw[sub64_0 0 l (by decide) l0 l1,<- hb,hL]
 have s2:∀w,(callFunc 208 #[.int .u64 0,.int .u64 h,.int .u64 b]).run Tryz.prog w=.ok (.value (.tuple #[.int .u64 ((0-h-b)%18446744073709551616),.int .u64 (if 0<h+b then 1 else 0)])) w:=fun w=>sub64 0 h b (by decide) h0 (by omega) b0 b1 w
 obtain⟨bo,hbo⟩:∃bo:Int,bo=if 0<h+b then 1 else 0:=⟨_,rfl⟩
 rw[<- hbo]at s2
 unfold zCJ
 obtain⟨R1,hR1⟩:=exq ((-(h*18446744073709551616+l))/18446744073709551616)
 obtain⟨R2,hR2⟩:=exq ((-(h*18446744073709551616+l))%18446744073709551616)
 obtain⟨R3,hR3⟩:=exq ((0-h-b)%18446744073709551616)
 rw[<- hR2]at s1
 rw[<- hR3]at s2 hH
 rw[<- hR1]at hH
 rw[<- hR1,<- hR2]
 clear hL hb hbo hR1 hR2 hR3 b0 b1
 go_enter Tryz.func149,Tryz.ntmps149
 go_wp2_with (first|simp only[s1]|simp only[s2])
 simp[bodyPost,results,Tryz.results149,go_sem]
 exact((Below.refl _ _).alloc (Nat.le_refl _) _).alloc (by simp) _
theorem cmp_lex{V U:Int}:(V/18446744073709551616<U/18446744073709551616->V<U)∧(U/18446744073709551616<V/18446744073709551616->U<V)∧
 (V/18446744073709551616=U/18446744073709551616->V%18446744073709551616<U%18446744073709551616->V<U)∧(V/18446744073709551616=U/18446744073709551616->U%18446744073709551616<V%18446744073709551616->U<V)∧
 (V/18446744073709551616=U/18446744073709551616->V%18446744073709551616=U%18446744073709551616->V=U):=by omega
theorem zDQ(w:World)(V U:Int):Calls Tryz.prog 207 #[zCJ V,zCJ U] w fun e w'=>e=.returned (.int .i64 (cmpI V U))∧Below w.heap.size w w':=by
 obtain⟨k1,k2,k3,k4,k5⟩:=cmp_lex (V:=V) (U:=U)
 unfold zCJ
 obtain⟨h,hh⟩:=exq (V/18446744073709551616)
 obtain⟨l,hl⟩:=exq (V%18446744073709551616)
 obtain⟨h',hh'⟩:∃h,h=U/18446744073709551616:=⟨_,rfl⟩
 obtain⟨l',hl'⟩:∃h,h=U%18446744073709551616:=⟨_,rfl⟩
 rw[<- hh,<- hl,<- hh',<- hl']
 rw[<- hh,<- hh']at k1 k2 k3 k4 k5
 rw[<- hl,<- hl']at k3 k4 k5
 clear hh hl hh' hl'
 obtain⟨C,hC⟩:=exq (cmpI V U)
 rw[<- hC]
 have HBL:=hid (show Below w.heap.size w ((w.alloc (.cells #[.int .i64 h,.int .u64 l] 100)).alloc (.cells #[.int .i64 h',.int .u64 l'] 100))from((Below.refl _ _).alloc (Nat.le_refl _) _).alloc (by simp) _)
 rcases Int.lt_trichotomy h h' with c1|c1|c1
 ·have hv:=k1 c1
  obtain rfl:C= -1:=by rw[hC];unfold cmpI;rw[if_pos hv]
  have hne:(h==h')=false:=by simp;omega
  have hne2:¬h=h':=by omega
  clear hC k1 k2 k3 k4 k5
  go_enter Tryz.func207,Tryz.ntmps207
  go_wp2
  go_ret
  exact⟨rfl,HBL.out⟩
 ·subst c1
  rcases Int.lt_trichotomy l l' with c2|c2|c2
  ·have hv:=k3 rfl c2
   obtain rfl:C= -1:=by rw[hC];unfold cmpI;rw[if_pos hv]
   have hne:(l==l')=false:=by simp;omega
   have hne2:¬l=l':=by omega
   clear hC k1 k2 k3 k4 k5
   go_enter Tryz.func207,Tryz.ntmps207
   go_wp2
   go_ret
   exact⟨rfl,HBL.out⟩
  ·subst c2
   have hv:=k5 rfl rfl
   obtain rfl:C=0:=by rw[hC];unfold cmpI;rw[if_neg (by omega),if_pos hv]
   clear hC k1 k2 k3 k4 k5
   go_enter Tryz.func207,Tryz.ntmps207
   go_wp2
   go_ret
   exact⟨rfl,HBL.out⟩
  ·have hv:=k4 rfl c2
   obtain rfl:C=1:=by rw[hC];unfold cmpI;rw[if_neg (by omega),if_neg (by omega)]
   have hne:(l==l')=false:=by simp;omega
   have hne2:¬l=l':=by omega
   have hnl:¬l<l':=by omega
   clear hC k1 k2 k3 k4 k5
   go_enter Tryz.func207,Tryz.ntmps207
   go_wp2
   go_ret
   exact⟨rfl,HBL.out⟩
 ·have hv:=k2 c1
  obtain rfl:C=1:=by rw[hC];unfold cmpI;rw[if_neg (by omega),if_neg (by omega)]
  have hne:(h==h')=false:=by simp;omega
  have hne2:¬h=h':=by omega
  have hnl:¬h<h':=by omega
  clear hC k1 k2 k3 k4 k5
  go_enter Tryz.func207,Tryz.ntmps207
  go_wp2
  go_ret
  exact⟨rfl,HBL.out⟩
theorem prod_sign(a b:Int):((decide (a<0) !=decide (b<0))=true->a*b= -(((a.natAbs*b.natAbs:Nat):Int)))∧((decide (a<0) !=decide (b<0))=false->a*b=((a.natAbs*b.natAbs:Nat):Int)):=by
 rw[Int.natCast_mul]
 rcases Int.lt_or_le a 0 with h1|h1<;>rcases Int.lt_or_le b 0 with h2|h2
 ·have e1:((a.natAbs:Nat):Int)= -a:=by omega
  have e2:((b.natAbs:Nat):Int)= -b:=by omega
  rw[e1,e2]
  simp[h1,h2]
  try grind
 ·have e1:((a.natAbs:Nat):Int)= -a:=by omega
  have e2:((b.natAbs:Nat):Int)=b:=by omega
  rw[e1,e2]
  simp[h1,Int.not_lt.2 h2]
  try grind
 ·have e1:((a.natAbs:Nat):Int)=a:=by omega
  have e2:((b.natAbs:Nat):Int)= -b:=by omega
  rw[e1,e2]
  simp[Int.not_lt.2 h1,h2]
  try grind
 ·have e1:((a.natAbs:Nat):Int)=a:=by omega
  have e2:((b.natAbs:Nat):Int)=b:=by omega
  rw[e1,e2]
  simp[Int.not_lt.2 h1,Int.not_lt.2 h2]
theorem zIN(w:World)(a b:Int)(ha: -9223372036854775808<=a∧a<=9223372036854775807)(hb: -9223372036854775808<=b∧b<=9223372036854775807):
 Calls Tryz.prog 235 #[.int .i64 a,.int .i64 b] w fun e w'=>e=.returned (zCJ (a*b))∧Below w.heap.size w w':=by
 obtain⟨s1,s2⟩:=prod_sign a b
 have HS1:=hid (fun X=>size_c X a ha)
 have HS2:=hid (fun X=>size_c X b hb)
 obtain⟨x,hx⟩:=exq (a.natAbs)
 obtain⟨y,hy⟩:=exq (b.natAbs)
 rw[<- hx,<- hy]at s1 s2
 rw[<- hx]at HS1
 rw[<- hy]at HS2
 have hx1:x<=9223372036854775808:=by omega
 have hy1:y<=9223372036854775808:=by omega
 have hp:x*y<=9223372036854775808*9223372036854775808:=Nat.mul_le_mul hx1 hy1
 have HM:=hid (fun X=>mul64_c x y (by omega) (by omega) X)
 obtain⟨P,hP⟩:=exq (x*y)
 rw[<- hP]at s1 s2 hp HM
 obtain⟨H,hH⟩:∃H:Int,H=((P/18446744073709551616:Nat):Int):=⟨_,rfl⟩
 obtain⟨Lo,hLo⟩:∃H:Int,H=((P%18446744073709551616:Nat):Int):=⟨_,rfl⟩
 rw[<- hH,<- hLo]at HM
 have h0:0<=H:=by omega
 have h1:H<=4611686018427387904:=by omega
 have l0:0<=Lo:=by omega
 have l1:Lo<18446744073709551616:=by omega
 have hw:IntKind.i64.wrap H=H:=IntWalk.i64_in _ (by omega)
 have heq:H*18446744073709551616+Lo=(P:Int):=by omega
 have HO:=hid (fun X=>opp_c X H Lo h0 h1 l0 l1)
 rw[heq]at HO
 have hwv:zCJ (P:Int)=.agg #[.int .i64 H,.int .u64 Lo]:=by
  unfold zCJ
  rw[show(P:Int)/18446744073709551616=H by omega,show(P:Int)%18446744073709551616=Lo by omega]
 by_cases ha0:a<0<;>by_cases hb0:b<0
 ·skip
  have hd1:decide (a<0)=true:=by simp[ha0]
  have hd2:decide (b<0)=true:=by simp[hb0]
  have e:=s2 (by simp[ha0,hb0])
  rw[e,hwv]
  clear s1 s2 hx hy hP hH hLo heq hwv e HO hp
  go_enter Tryz.func235,Tryz.ntmps235
  go_wp2_with (go_at_call 210;refine(HS1.out _).mono ?_;rintro e w1 ⟨rfl,rfl⟩;refine Stop.of ?_)
  refine Stop.go ?_
  go_wp2_with (go_at_call 210;refine(HS2.out _).mono ?_;rintro e w1 ⟨rfl,rfl⟩;refine Stop.of ?_)
  refine Stop.go ?_
  go_wp2_with (go_at_call 209;refine(HM.out _).mono ?_;rintro e w1 ⟨rfl,rfl⟩;refine Stop.of ?_)
  refine Stop.go ?_
  go_wp2
  simp[bodyPost,results,Tryz.results235,go_sem]
  exact((Below.refl _ _).alloc (Nat.le_refl _) _).alloc (by simp) _
 ·skip
  have hd1:decide (a<0)=true:=by simp[ha0]
  have hd2:decide (b<0)=false:=by simp[hb0]
  have e:=s1 (by simp[ha0,hb0])
  rw[e]
  obtain⟨R1,hR1⟩:=exq ((-(P:Int))/18446744073709551616)
  obtain⟨R2,hR2⟩:=exq ((-(P:Int))%18446744073709551616)
  have hwn:zCJ (-(P:Int))=.agg #[.int .i64 R1,.int .u64 R2]:=by unfold zCJ;rw[hR1,hR2]
  rw[hwn]at HO⊢
  clear s1 s2 hx hy hP hH hLo heq hwv e hp hR1 hR2 hwn
  go_enter Tryz.func235,Tryz.ntmps235
  go_wp2_with (go_at_call 210;refine(HS1.out _).mono ?_;rintro e w1 ⟨rfl,rfl⟩;refine Stop.of ?_)
  refine Stop.go ?_
  go_wp2_with (go_at_call 210;refine(HS2.out _).mono ?_;rintro e w1 ⟨rfl,rfl⟩;refine Stop.of ?_)
  refine Stop.go ?_
  go_wp2_with (go_at_call 209;refine(HM.out _).mono ?_;rintro e w1 ⟨rfl,rfl⟩;refine Stop.of ?_)
  refine Stop.go ?_
  go_wp2_with (go_at_call 149;refine(HO.out _).mono ?_;rintro e w2 ⟨rfl,hb2⟩;refine Stop.of ?_)
  refine Stop.go ?_
  have hba:Below w.heap.size w ((w.alloc (.cells #[.int .i64 0,.int .u64 0] 100)).alloc (.cells #[.int .i64 H,.int .u64 Lo] 100)):=((Below.refl _ _).alloc (Nat.le_refl _) _).alloc (by simp) _
  have hbx:=zAA hba hb2
  have c0:w2.cell? ⟨w.heap.size,0,none⟩=some (.int .i64 0):=((bcell hb2).1 w.heap.size 0 (by simp;omega)).trans (by rw[World.cell?_alloc_past _ _ _ (by simp),World.cell?_alloc_at _ _ _ _ rfl];rfl)
  have c1:w2.cell? ⟨w.heap.size,1,none⟩=some (.int .u64 0):=((bcell hb2).1 w.heap.size 1 (by simp;omega)).trans (by rw[World.cell?_alloc_past _ _ _ (by simp),World.cell?_alloc_at _ _ _ _ rfl];rfl)
  have hlt2:w.heap.size<w2.heap.size:=by have:=hb2.size;simp at this;omega
  have f0:w2.frozen? ⟨w.heap.size,0,none⟩=false:=((bcell hb2).2 w.heap.size 0 (by simp;omega)).trans (by simp[go_sem])
  have f1:w2.frozen? ⟨w.heap.size,1,none⟩=false:=((bcell hb2).2 w.heap.size 1 (by simp;omega)).trans (by simp[go_sem])
  go_wp2
  simp[bodyPost,results,Tryz.results235,go_sem,c0,c1,f0,f1,hlt2]
  exact zAG (zAG hbx (Nat.le_refl _) 0 _) (Nat.le_refl _) 1 _
 ·skip
  have hd1:decide (a<0)=false:=by simp[ha0]
  have hd2:decide (b<0)=true:=by simp[hb0]
  have e:=s1 (by simp[ha0,hb0])
  rw[e]
  obtain⟨R1,hR1⟩:=exq ((-(P:Int))/18446744073709551616)
  obtain⟨R2,hR2⟩:=exq ((-(P:Int))%18446744073709551616)
  have hwn:zCJ (-(P:Int))=.agg #[.int .i64 R1,.int .u64 R2]:=by unfold zCJ;rw[hR1,hR2]
  rw[hwn]at HO⊢
  clear s1 s2 hx hy hP hH hLo heq hwv e hp hR1 hR2 hwn
  go_enter Tryz.func235,Tryz.ntmps235
  go_wp2_with (go_at_call 210;refine(HS1.out _).mono ?_;rintro e w1 ⟨rfl,rfl⟩;refine Stop.of ?_)
  refine Stop.go ?_
  go_wp2_with (go_at_call 210;refine(HS2.out _).mono ?_;rintro e w1 ⟨rfl,rfl⟩;refine Stop.of ?_)
  refine Stop.go ?_
  go_wp2_with (go_at_call 209;refine(HM.out _).mono ?_;rintro e w1 ⟨rfl,rfl⟩;refine Stop.of ?_)
  refine Stop.go ?_
  go_wp2_with (go_at_call 149;refine(HO.out _).mono ?_;rintro e w2 ⟨rfl,hb2⟩;refine Stop.of ?_)
  refine Stop.go ?_
  have hba:Below w.heap.size w ((w.alloc (.cells #[.int .i64 0,.int .u64 0] 100)).alloc (.cells #[.int .i64 H,.int .u64 Lo] 100)):=((Below.refl _ _).alloc (Nat.le_refl _) _).alloc (by simp) _
  have hbx:=zAA hba hb2
  have c0:w2.cell? ⟨w.heap.size,0,none⟩=some (.int .i64 0):=((bcell hb2).1 w.heap.size 0 (by simp;omega)).trans (by rw[World.cell?_alloc_past _ _ _ (by simp),World.cell?_alloc_at _ _ _ _ rfl];rfl)
  have c1:w2.cell? ⟨w.heap.size,1,none⟩=some (.int .u64 0):=((bcell hb2).1 w.heap.size 1 (by simp;omega)).trans (by rw[World.cell?_alloc_past _ _ _ (by simp),World.cell?_alloc_at _ _ _ _ rfl];rfl)
  have hlt2:w.heap.size<w2.heap.size:=by have:=hb2.size;simp at this;omega
  have f0:w2.frozen? ⟨w.heap.size,0,none⟩=false:=((bcell hb2).2 w.heap.size 0 (by simp;omega)).trans (by simp[go_sem])
  have f1:w2.frozen? ⟨w.heap.size,1,none⟩=false:=((bcell hb2).2 w.heap.size 1 (by simp;omega)).trans (by simp[go_sem])
  go_wp2
  simp[bodyPost,results,Tryz.results235,go_sem,c0,c1,f0,f1,hlt2]
  exact zAG (zAG hbx (Nat.le_refl _) 0 _) (Nat.le_refl _) 1 _
 ·skip
  have hd1:decide (a<0)=false:=by simp[ha0]
  have hd2:decide (b<0)=false:=by simp[hb0]
  have e:=s2 (by simp[ha0,hb0])
  rw[e,hwv]
  clear s1 s2 hx hy hP hH hLo heq hwv e HO hp
  go_enter Tryz.func235,Tryz.ntmps235
  go_wp2_with (go_at_call 210;refine(HS1.out _).mono ?_;rintro e w1 ⟨rfl,rfl⟩;refine Stop.of ?_)
  refine Stop.go ?_
  go_wp2_with (go_at_call 210;refine(HS2.out _).mono ?_;rintro e w1 ⟨rfl,rfl⟩;refine Stop.of ?_)
  refine Stop.go ?_
  go_wp2_with (go_at_call 209;refine(HM.out _).mono ?_;rintro e w1 ⟨rfl,rfl⟩;refine Stop.of ?_)
  refine Stop.go ?_
  go_wp2
  simp[bodyPost,results,Tryz.results235,go_sem]
  exact((Below.refl _ _).alloc (Nat.le_refl _) _).alloc (by simp) _
end
section
open Go.RowKit
def dF(d:Int):Int:=if d<1 then 1 else d
def cmpR(an ad bn bd:Int):Int:=cmpI (an*dF bd) (bn*dF ad)
def F64(n:Int):Prop:= -9223372036854775808<=n∧n<=9223372036854775807
theorem fcompare_c(w:World)(an ad bn bd:Int)(h1:F64 an)(h2:F64 ad)(h3:F64 bn)(h4:F64 bd):
 Calls Tryz.prog 198 #[.agg #[.int .i64 an,.int .i64 ad],.agg #[.int .i64 bn,.int .i64 bd]] w fun e w'=>e=.returned (.int .i64 (cmpR an ad bn bd))∧Below w.heap.size w w':=by
 obtain⟨h1a,h1b⟩:=h1
 obtain⟨h2a,h2b⟩:=h2
 obtain⟨h3a,h3b⟩:=h3
 obtain⟨h4a,h4b⟩:=h4
 unfold cmpR dF
 by_cases c1:ad<1<;>by_cases c2:bd<1
 ·rw[if_pos c1,if_pos c2]
  obtain⟨C,hC⟩:=exq (cmpI (an*1) (bn*1))
  rw[<- hC]
  have HCC:=hid hC
  obtain⟨wz,hwz⟩:=exq ((w.alloc (.cells #[.int .i64 an,.int .i64 1] 29)).alloc (.cells #[.int .i64 bn,.int .i64 1] 29))
  have hbz:Below w.heap.size w wz:=by rw[hwz];exact((Below.refl _ _).alloc (Nat.le_refl _) _).alloc (by simp) _
  have hsz:wz.heap.size=w.heap.size+2:=by rw[hwz];simp
  have l0:=zAZ (W:=wz) (b:=w.heap.size) (o:=0) (by omega) (show wz.cell? ⟨w.heap.size,0,none⟩=some (.int .i64 an)by rw[hwz,World.cell?_alloc_past _ _ _ (by simp),World.cell?_alloc_at _ _ _ _ rfl];rfl)
  have l1:=zAZ (W:=wz) (b:=w.heap.size) (o:=1) (by omega) (show wz.cell? ⟨w.heap.size,1,none⟩=some (.int .i64 1)by rw[hwz,World.cell?_alloc_past _ _ _ (by simp),World.cell?_alloc_at _ _ _ _ rfl];rfl)
  have l2:=zAZ (W:=wz) (b:=w.heap.size+1) (o:=0) (by omega) (show wz.cell? ⟨w.heap.size+1,0,none⟩=some (.int .i64 bn)by rw[hwz,World.cell?_alloc_at _ _ _ _ (by simp)];rfl)
  have l3:=zAZ (W:=wz) (b:=w.heap.size+1) (o:=1) (by omega) (show wz.cell? ⟨w.heap.size+1,1,none⟩=some (.int .i64 1)by rw[hwz,World.cell?_alloc_at _ _ _ _ (by simp)];rfl)
  have HWZ:=hid hwz
  have HBZ:=hid hbz
  clear hC hwz hbz hsz
  go_enter Tryz.func198,Tryz.ntmps198
  go_wp2
  rw[<- HWZ.out]
  refine zDF (by kernel_rfl) (by kernel_rfl) ?_
  repeat (go_big_quiet_step (first
   | (go_at_call 235;exact zCE (zIN _ _ _ (by omega) (by omega)))
   | (go_at_call 207;exact zCE (zDQ _ _ _))))
  refine wpQuiet_nil ?_
  rintro _ ⟨X,rfl⟩
  have hfin:=zAA HBZ.out (zCW wz X)
  go_wp2
  go_ret
  exact⟨zDB (by rw[HCC.out];try simp),hfin⟩
 ·rw[if_pos c1,if_neg c2]
  obtain⟨C,hC⟩:=exq (cmpI (an*bd) (bn*1))
  rw[<- hC]
  have HCC:=hid hC
  obtain⟨wz,hwz⟩:=exq ((w.alloc (.cells #[.int .i64 an,.int .i64 1] 29)).alloc (.cells #[.int .i64 bn,.int .i64 bd] 29))
  have hbz:Below w.heap.size w wz:=by rw[hwz];exact((Below.refl _ _).alloc (Nat.le_refl _) _).alloc (by simp) _
  have hsz:wz.heap.size=w.heap.size+2:=by rw[hwz];simp
  have l0:=zAZ (W:=wz) (b:=w.heap.size) (o:=0) (by omega) (show wz.cell? ⟨w.heap.size,0,none⟩=some (.int .i64 an)by rw[hwz,World.cell?_alloc_past _ _ _ (by simp),World.cell?_alloc_at _ _ _ _ rfl];rfl)
  have l1:=zAZ (W:=wz) (b:=w.heap.size) (o:=1) (by omega) (show wz.cell? ⟨w.heap.size,1,none⟩=some (.int .i64 1)by rw[hwz,World.cell?_alloc_past _ _ _ (by simp),World.cell?_alloc_at _ _ _ _ rfl];rfl)
  have l2:=zAZ (W:=wz) (b:=w.heap.size+1) (o:=0) (by omega) (show wz.cell? ⟨w.heap.size+1,0,none⟩=some (.int .i64 bn)by rw[hwz,World.cell?_alloc_at _ _ _ _ (by simp)];rfl)
  have l3:=zAZ (W:=wz) (b:=w.heap.size+1) (o:=1) (by omega) (show wz.cell? ⟨w.heap.size+1,1,none⟩=some (.int .i64 bd)by rw[hwz,World.cell?_alloc_at _ _ _ _ (by simp)];rfl)
  have HWZ:=hid hwz
  have HBZ:=hid hbz
  clear hC hwz hbz hsz
  go_enter Tryz.func198,Tryz.ntmps198
  go_wp2
  rw[<- HWZ.out]
  refine zDF (by kernel_rfl) (by kernel_rfl) ?_
  repeat (go_big_quiet_step (first
   | (go_at_call 235;exact zCE (zIN _ _ _ (by omega) (by omega)))
   | (go_at_call 207;exact zCE (zDQ _ _ _))))
  refine wpQuiet_nil ?_
  rintro _ ⟨X,rfl⟩
  have hfin:=zAA HBZ.out (zCW wz X)
  go_wp2
  go_ret
  exact⟨zDB (by rw[HCC.out];try simp),hfin⟩
 ·rw[if_neg c1,if_pos c2]
  obtain⟨C,hC⟩:=exq (cmpI (an*1) (bn*ad))
  rw[<- hC]
  have HCC:=hid hC
  obtain⟨wz,hwz⟩:=exq ((w.alloc (.cells #[.int .i64 an,.int .i64 ad] 29)).alloc (.cells #[.int .i64 bn,.int .i64 1] 29))
  have hbz:Below w.heap.size w wz:=by rw[hwz];exact((Below.refl _ _).alloc (Nat.le_refl _) _).alloc (by simp) _
  have hsz:wz.heap.size=w.heap.size+2:=by rw[hwz];simp
  have l0:=zAZ (W:=wz) (b:=w.heap.size) (o:=0) (by omega) (show wz.cell? ⟨w.heap.size,0,none⟩=some (.int .i64 an)by rw[hwz,World.cell?_alloc_past _ _ _ (by simp),World.cell?_alloc_at _ _ _ _ rfl];rfl)
  have l1:=zAZ (W:=wz) (b:=w.heap.size) (o:=1) (by omega) (show wz.cell? ⟨w.heap.size,1,none⟩=some (.int .i64 ad)by rw[hwz,World.cell?_alloc_past _ _ _ (by simp),World.cell?_alloc_at _ _ _ _ rfl];rfl)
  have l2:=zAZ (W:=wz) (b:=w.heap.size+1) (o:=0) (by omega) (show wz.cell? ⟨w.heap.size+1,0,none⟩=some (.int .i64 bn)by rw[hwz,World.cell?_alloc_at _ _ _ _ (by simp)];rfl)
  have l3:=zAZ (W:=wz) (b:=w.heap.size+1) (o:=1) (by omega) (show wz.cell? ⟨w.heap.size+1,1,none⟩=some (.int .i64 1)by rw[hwz,World.cell?_alloc_at _ _ _ _ (by simp)];rfl)
  have HWZ:=hid hwz
  have HBZ:=hid hbz
  clear hC hwz hbz hsz
  go_enter Tryz.func198,Tryz.ntmps198
  go_wp2
  rw[<- HWZ.out]
  refine zDF (by kernel_rfl) (by kernel_rfl) ?_
  repeat (go_big_quiet_step (first
   | (go_at_call 235;exact zCE (zIN _ _ _ (by omega) (by omega)))
   | (go_at_call 207;exact zCE (zDQ _ _ _))))
  refine wpQuiet_nil ?_
  rintro _ ⟨X,rfl⟩
  have hfin:=zAA HBZ.out (zCW wz X)
  go_wp2
  go_ret
  exact⟨zDB (by rw[HCC.out];try simp),hfin⟩
 ·rw[if_neg c1,if_neg c2]
  obtain⟨C,hC⟩:=exq (cmpI (an*bd) (bn*ad))
  rw[<- hC]
  have HCC:=hid hC
  obtain⟨wz,hwz⟩:=exq ((w.alloc (.cells #[.int .i64 an,.int .i64 ad] 29)).alloc (.cells #[.int .i64 bn,.int .i64 bd] 29))
  have hbz:Below w.heap.size w wz:=by rw[hwz];exact((Below.refl _ _).alloc (Nat.le_refl _) _).alloc (by simp) _
  have hsz:wz.heap.size=w.heap.size+2:=by rw[hwz];simp
  have l0:=zAZ (W:=wz) (b:=w.heap.size) (o:=0) (by omega) (show wz.cell? ⟨w.heap.size,0,none⟩=some (.int .i64 an)by rw[hwz,World.cell?_alloc_past _ _ _ (by simp),World.cell?_alloc_at _ _ _ _ rfl];rfl)
  have l1:=zAZ (W:=wz) (b:=w.heap.size) (o:=1) (by omega) (show wz.cell? ⟨w.heap.size,1,none⟩=some (.int .i64 ad)by rw[hwz,World.cell?_alloc_past _ _ _ (by simp),World.cell?_alloc_at _ _ _ _ rfl];rfl)
  have l2:=zAZ (W:=wz) (b:=w.heap.size+1) (o:=0) (by omega) (show wz.cell? ⟨w.heap.size+1,0,none⟩=some (.int .i64 bn)by rw[hwz,World.cell?_alloc_at _ _ _ _ (by simp)];rfl)
  have l3:=zAZ (W:=wz) (b:=w.heap.size+1) (o:=1) (by omega) (show wz.cell? ⟨w.heap.size+1,1,none⟩=some (.int .i64 bd)by rw[hwz,World.cell?_alloc_at _ _ _ _ (by simp)];rfl)
  have HWZ:=hid hwz
  have HBZ:=hid hbz
  clear hC hwz hbz hsz
  go_enter Tryz.func198,Tryz.ntmps198
  go_wp2
  rw[<- HWZ.out]
  refine zDF (by kernel_rfl) (by kernel_rfl) ?_
  repeat (go_big_quiet_step (first
   | (go_at_call 235;exact zCE (zIN _ _ _ (by omega) (by omega)))
   | (go_at_call 207;exact zCE (zDQ _ _ _))))
  refine wpQuiet_nil ?_
  rintro _ ⟨X,rfl⟩
  have hfin:=zAA HBZ.out (zCW wz X)
  go_wp2
  go_ret
  exact⟨zDB (by rw[HCC.out];try simp),hfin⟩
theorem zKE(w:World)(an ad bn bd:Int)(h1:F64 an)(h2:F64 ad)(h3:F64 bn)(h4:F64 bd):
 Calls Tryz.prog 136 #[.agg #[.int .i64 an,.int .i64 ad],.agg #[.int .i64 bn,.int .i64 bd]] w fun e w'=>e=.returned (.int .i64 (cmpR an ad bn bd))∧Below w.heap.size w w':=by
 have HC:=hid (fun X=>fcompare_c X an ad bn bd h1 h2 h3 h4)
 obtain⟨C,hC⟩:=exq (cmpR an ad bn bd)
 rw[<- hC]at HC⊢
 have HBL:=hid (show Below w.heap.size w ((w.alloc (.cells #[.int .i64 an,.int .i64 ad] 29)).alloc (.cells #[.int .i64 bn,.int .i64 bd] 29))from((Below.refl _ _).alloc (Nat.le_refl _) _).alloc (by simp) _)
 clear hC
 go_enter Tryz.func136,Tryz.ntmps136
 go_wp2_with (go_at_call 198;refine(HC.out _).mono ?_;rintro e w1 ⟨rfl,hb1⟩)
 go_ret
 exact⟨rfl,zAA HBL.out hb1⟩
theorem down_facts{n d:Int}(hd:1<=d):(n.tmod d<0->n.tdiv d-1=n/d∧n.tmod d+d=n%d)∧(¬n.tmod d<0->n.tdiv d=n/d∧n.tmod d=n%d)∧ -d<n.tmod d∧n.tmod d<d:=by
 have e:=Int.mul_tdiv_add_tmod n d
 have b1:n.tmod d<d:=Int.tmod_lt_of_pos n (by omega)
 have b2: -d<n.tmod d:=by
  have:=Int.lt_tmod_of_pos n (show 0<d by omega)
  omega
 refine⟨fun h=>?_,fun h=>?_,b2,b1⟩
 ·have:=(Int.ediv_emod_unique (a:=n) (b:=d) (r:=n.tmod d+d) (q:=n.tdiv d-1) (by omega)).2 ⟨by rw[Int.mul_sub];omega,by omega,by omega⟩
  exact⟨this.1.symm,this.2.symm⟩
 ·have:=(Int.ediv_emod_unique (a:=n) (b:=d) (r:=n.tmod d) (q:=n.tdiv d) (by omega)).2 ⟨by omega,by omega,by omega⟩
  exact⟨this.1.symm,this.2.symm⟩
theorem down_c(w:World)(n d:Int)(hn:F64 n)(hd:1<=d∧d<=9223372036854775807):
 Calls Tryz.prog 92 #[.int .i64 n,.int .i64 d] w fun e w'=>e=.returned (.tuple #[.int .i64 (n/d),.int .i64 (n%d)])∧∃k,w'=w.drewN k:=by
 obtain⟨f1,f2,f3,f4⟩:=down_facts (n:=n) hd.1
 obtain⟨hna,hnb⟩:=hn
 obtain⟨hd1,hd2⟩:=hd
 have hq:(n.tdiv d).natAbs<=n.natAbs:=by rw[Int.natAbs_tdiv];exact Nat.div_le_self _ _
 have hq3:n.tdiv d<=9223372036854775807:=by
  rcases Int.lt_or_le n 0 with h|h
  ·have e:n.tdiv d= -((-n).tdiv d):=by rw[Int.neg_tdiv];omega
   have:=Int.tdiv_nonneg (show 0<= -n by omega) (show 0<=d by omega)
   omega
  ·omega
 have hq2:n.tmod d<0-> -9223372036854775808<n.tdiv d:=fun h=>by
  have:=(f1 h)
  have e:=Int.mul_ediv_add_emod n d
  rcases Int.lt_or_le (-9223372036854775808) (n.tdiv d)with h5|h5
  ·exact h5
  ·exfalso
   have h6:n.tdiv d= -9223372036854775808:=by omega
   have h7:n= -9223372036854775808:=by omega
   have h8:=Int.mul_tdiv_add_tmod n d
   rw[h6]at h8
   have h9:d* -9223372036854775808<= -9223372036854775808:=by omega
   omega
 obtain⟨Q,hQ⟩:=exq (n/d)
 obtain⟨R,hR⟩:=exq (n%d)
 obtain⟨q,hq0⟩:=exq (n.tdiv d)
 obtain⟨r,hr0⟩:=exq (n.tmod d)
 rw[<- hQ,<- hR]at f1 f2
 rw[<- hq0,<- hr0]at f1 f2 hq2
 rw[<- hr0]at f3 f4
 rw[<- hq0]at hq hq3
 rw[<- hQ,<- hR]
 have w1:IntKind.i64.wrap (n.tdiv d)=q:=by rw[<- hq0];exact IntWalk.i64_in _ (by omega)
 have w2:n.tmod d=r:=hr0.symm
 have hdz:¬(d=0):=by omega
 clear hQ hR hq0 hr0
 by_cases h:r<0
 ·obtain⟨g1,g2⟩:=f1 h
  have g3:=hq2 h
  have w3:IntKind.i64.wrap (q-1)=Q:=by rw[g1];exact IntWalk.i64_in _ (by omega)
  have w4:IntKind.i64.wrap (r+d)=R:=by rw[g2];exact IntWalk.i64_in _ (by omega)
  clear f1 f2 hq2 g1 g2
  go_enter Tryz.func92,Tryz.ntmps92
  go_wp2
  go_quiet (fail)
  go_wp2
  go_ret2
  exact⟨rfl,_,rfl⟩
 ·obtain⟨g1,g2⟩:=f2 h
  subst g1
  subst g2
  clear f1 f2 hq2
  go_enter Tryz.func92,Tryz.ntmps92
  go_wp2
  go_quiet (fail)
  go_wp2
  go_ret2
  exact⟨rfl,_,rfl⟩
end
end
section
section
open Go.RowKit Go.Lib
theorem AnyT.nextB{P:Program}{md:Region.Mode}{ops:Array Oper}{Q:Exit->Act->World->Prop}{T:Nat->World->Prop}{i j:Nat}{fuel:Nat}{listed:Array Bool}{a:Act}{w:World}(hr:Region.ready md ops listed=[i,j])
 (h1:wpOp P ops Q i (fun a' w'=>T i w'∧AnyT P md ops Q T fuel (listed.setIfInBounds i true) a' w') a w)
 (h2:wpOp P ops Q j (fun a' w'=>T j w'∧AnyT P md ops Q T fuel (listed.setIfInBounds j true) a' w') a w):AnyT P md ops Q T (fuel+1) listed a w:=
 ⟨fun h0=>(by rw[hr]at h0;cases h0),fun k hk=>by
   rw[hr]at hk
   have:k=i∨k=j:=by simpa using hk
   rcases this with rfl|rfl
   ·exact h1
   ·exact h2⟩
theorem add64(x y b:Int)(hx:0<=x)(hx':x<18446744073709551616)(hy:0<=y)(hy':y<18446744073709551616)(hb0:0<=b)(hb:b<=1)(w:World):(callFunc 212 #[.int .u64 x,.int .u64 y,.int .u64 b]).run Tryz.prog w=
 .ok (.value (.tuple #[.int .u64 ((x+y+b)%18446744073709551616),.int .u64 ((x+y+b)/18446744073709551616)])) w:=by
 rw[run_callFunc_extern Tryz.func212 (by kernel_rfl) (by kernel_rfl) (by kernel_rfl) (e:=add64Entry) (by kernel_rfl),run_add64 x y b (by omega) (by omega) (by omega) (by omega)]
 simp only[Result.andThen]
theorem zJP(w:World)(V U:Int)(h: -170141183460469231731687303715884105728<=V+U∧V+U<170141183460469231731687303715884105728)(hV: -170141183460469231731687303715884105728<=V∧V<170141183460469231731687303715884105728)(hU: -170141183460469231731687303715884105728<=U∧U<170141183460469231731687303715884105728):
 Calls Tryz.prog 161 #[zCJ V,zCJ U] w fun e w'=>e=.returned (zCJ (V+U))∧Below w.heap.size w w':=by
 unfold zCJ
 obtain⟨a,ha⟩:=exq (V/18446744073709551616)
 obtain⟨b,hb⟩:=exq (V%18446744073709551616)
 obtain⟨c,hc⟩:=exq (U/18446744073709551616)
 obtain⟨d,hd⟩:=exq (U%18446744073709551616)
 obtain⟨r1,hr1⟩:=exq ((V+U)/18446744073709551616)
 obtain⟨r2,hr2⟩:=exq ((V+U)%18446744073709551616)
 obtain⟨k,hk⟩:=exq ((b+d+0)/18446744073709551616)
 obtain⟨a',ha'⟩:∃k,k=IntKind.u64.wrap a:=⟨_,rfl⟩
 obtain⟨c',hc'⟩:∃k,k=IntKind.u64.wrap c:=⟨_,rfl⟩
 have ea:a'=a%18446744073709551616:=by rw[ha',IntKind.wrap_u64]
 have ec:c'=c%18446744073709551616:=by rw[hc',IntKind.wrap_u64]
 obtain⟨s,hs⟩:=exq ((a'+c'+k)%18446744073709551616)
 obtain⟨t,ht⟩:=exq ((a'+c'+k)/18446744073709551616)
 have k0:0<=k∧k<=1:=by omega
 have s1:∀w,(callFunc 212 #[.int .u64 b,.int .u64 d,.int .u64 0]).run Tryz.prog w=.ok (.value (.tuple #[.int .u64 r2,.int .u64 k])) w:=fun w=>by
  rw[add64 b d 0 (by omega) (by omega) (by omega) (by omega) (by decide) (by decide),<- hk,show(b+d+0)%18446744073709551616=r2 by omega]
 have s2:∀w,(callFunc 212 #[.int .u64 a',.int .u64 c',.int .u64 k]).run Tryz.prog w=.ok (.value (.tuple #[.int .u64 s,.int .u64 t])) w:=fun w=>by
  rw[add64 a' c' k (by omega) (by omega) (by omega) (by omega) k0.1 k0.2,<- hs,<- ht]
 have hw:IntKind.i64.wrap s=r1:=by rw[IntKind.wrap_i64];omega
 have ha2:IntKind.u64.wrap a=a':=ha'.symm
 have hc2:IntKind.u64.wrap c=c':=hc'.symm
 rw[<- ha,<- hb,<- hc,<- hd,<- hr1,<- hr2]
 clear ha hb hc hd hr1 hr2 hk ha' hc' ea ec hs ht k0 h hV hU
 go_enter Tryz.func161,Tryz.ntmps161
 go_wp2_with (first|simp only[s1]|simp only[s2])
 simp[bodyPost,results,Tryz.results161,go_sem]
 exact(((Below.refl _ _).alloc (Nat.le_refl _) _).alloc (by simp) _).alloc (by simp;omega) _
theorem zLV(w:World)(V:Int)(hV: -170141183460469231731687303715884105728<V∧V<170141183460469231731687303715884105728):
 Calls Tryz.prog 149 #[zCJ V] w fun e w'=>e=.returned (zCJ (-V))∧Below w.heap.size w w':=by
 unfold zCJ
 obtain⟨a,ha⟩:=exq (V/18446744073709551616)
 obtain⟨l,hl⟩:=exq (V%18446744073709551616)
 obtain⟨R1,hR1⟩:=exq ((-V)/18446744073709551616)
 obtain⟨R2,hR2⟩:=exq ((-V)%18446744073709551616)
 obtain⟨b,hb⟩:∃b:Int,b=if (0:Int)<l then 1 else 0:=⟨_,rfl⟩
 have b0:0<=b:=by rw[hb];split<;>decide
 have b1:b<=1:=by rw[hb];split<;>decide
 have hbl:(0<l->b=1)∧(¬0<l->b=0):=by rw[hb];exact⟨fun h=>if_pos h,fun h=>if_neg h⟩
 obtain⟨h,hh⟩:=exq (IntKind.u64.wrap a)
 have eh:h=a%18446744073709551616:=by rw[hh,IntKind.wrap_u64]
 obtain⟨R3,hR3⟩:=exq ((0-h-b)%18446744073709551616)
 obtain⟨bo,hbo⟩:∃bo:Int,bo=if 0<h+b then 1 else 0:=⟨_,rfl⟩
 have s1:∀w,(callFunc 208 #[.int .u64 0,.int .u64 l,.int .u64 0]).run Tryz.prog w=.ok (.value (.tuple #[.int .u64 R2,.int .u64 b])) w:=fun w=>by
  rw[sub64_0 0 l (by decide) (by omega) (by omega),<- hb,show(0-l)%18446744073709551616=R2 by omega]
 have s2:∀w,(callFunc 208 #[.int .u64 0,.int .u64 h,.int .u64 b]).run Tryz.prog w=.ok (.value (.tuple #[.int .u64 R3,.int .u64 bo])) w:=fun w=>by
  rw[sub64 0 h b (by decide) (by omega) (by omega) b0 b1,<- hR3,<- hbo]
 have hw:IntKind.i64.wrap R3=R1:=by
  rw[IntKind.wrap_i64]
  rcases Int.lt_or_le 0 l with h1|h1
  ·have:=hbl.1 h1;omega
  ·have:=hbl.2 (by omega);omega
 have hu:IntKind.u64.wrap a=h:=hh.symm
 rw[<- ha,<- hl,<- hR1,<- hR2]
 clear ha hl hR1 hR2 hb b0 b1 hbl hh eh hR3 hbo hV
 go_enter Tryz.func149,Tryz.ntmps149
 go_wp2_with (first|simp only[s1]|simp only[s2])
 simp[bodyPost,results,Tryz.results149,go_sem]
 exact((Below.refl _ _).alloc (Nat.le_refl _) _).alloc (by simp) _
def sumV(n d:Int):Value:=.agg #[.int .i64 (n/18446744073709551616),.int .u64 (n%18446744073709551616),.int .i64 (d/18446744073709551616),.int .u64 (d%18446744073709551616)]
theorem zLU(w:World):Calls Tryz.prog 95 #[] w fun e w'=>e=.returned (sumV 0 1)∧Below w.heap.size w w':=by
 have h0:sumV 0 1=.agg #[.int .i64 0,.int .u64 0,.int .i64 0,.int .u64 1]:=by simp[sumV]
 rw[h0]
 go_enter Tryz.func95,Tryz.ntmps95
 go_wp2
 simp[bodyPost,results,Tryz.results95,go_sem]
 exact(Below.refl _ _).alloc (Nat.le_refl _) _
theorem div_mod_join{P HX q o r K:Nat}(h:P=HX*K+q)(ho:o=q/K)(hr:r=q%K):P=(HX+o)*K+r:=by
 have:=Nat.div_add_mod q K
 rw[<- ho,<- hr,Nat.mul_comm]at this
 rw[h,Nat.add_mul];omega
theorem mul_split{v H l K x:Nat}(hv:v=H*K+l):v*x=H*x*K+l*x:=by rw[hv,Nat.add_mul,Nat.mul_right_comm]
theorem wtimes0_c(w:World)(V n:Int)(h0:0<=V)(hV:V<170141183460469231731687303715884105728)(hn: -9223372036854775808<n∧n<=9223372036854775807)(hP:V*(n.natAbs:Nat)<170141183460469231731687303715884105728):
 Calls Tryz.prog 151 #[zCJ V,.int .i64 n] w fun e w'=>e=.returned (zCJ (V*n))∧Below w.heap.size w w':=by
 have HSZ:=hid (fun X=>size_c X n ⟨by omega,hn.2⟩)
 obtain⟨x,hx⟩:=exq (n.natAbs)
 rw[<- hx]at HSZ hP
 obtain⟨v,rfl⟩:=Int.eq_ofNat_of_zero_le h0
 have hx1:x<=9223372036854775807:=by omega
 obtain⟨H,hH⟩:=exq (v/18446744073709551616)
 obtain⟨l,hl⟩:=exq (v%18446744073709551616)
 have hv:v=H*18446744073709551616+l:=by omega
 have hl1:l<18446744073709551616:=by omega
 have hPn:v*x<170141183460469231731687303715884105728:=by rw[<- Int.natCast_mul]at hP;omega
 have hmul:v*x=H*x*18446744073709551616+l*x:=mul_split hv
 obtain⟨HX,hHX⟩:=exq (H*x)
 obtain⟨o,ho⟩:=exq (l*x/18446744073709551616)
 obtain⟨r,hr⟩:=exq (l*x%18446744073709551616)
 have HM:=hid (fun X=>mul64_c l x hl1 (by omega) X)
 rw[<- ho,<- hr]at HM
 obtain⟨P,hPe⟩:=exq (v*x)
 rw[<- hPe]at hPn hmul
 rw[<- hHX]at hmul
 have hPd:P=(HX+o)*18446744073709551616+r:=div_mod_join hmul ho hr
 have hsum:HX+o<9223372036854775808:=by omega
 have hr1:r<18446744073709551616:=by omega
 have hw0:zCJ (v:Int)=.agg #[.int .i64 H,.int .u64 l]:=by
  unfold zCJ
  rw[show(v:Int)/18446744073709551616=H by omega,show(v:Int)%18446744073709551616=l by omega]
 obtain⟨R,hR⟩:∃R:Nat,R=HX+o:=⟨_,rfl⟩
 have hwP:zCJ (P:Int)=.agg #[.int .i64 R,.int .u64 r]:=by
  unfold zCJ
  rw[show(P:Int)/18446744073709551616=R by omega,show(P:Int)%18446744073709551616=r by omega]
 have HWP:=hid hwP
 have e1:IntKind.i64.wrap (x:Int)=x:=IntWalk.i64_in _ (by omega)
 have e2:IntKind.i64.wrap ((H:Int)*x)=HX:=by rw[show(H:Int)*x=(HX:Int)by rw[hHX];simp];exact IntWalk.i64_in _ (by omega)
 have e3:IntKind.i64.wrap (o:Int)=o:=IntWalk.i64_in _ (by omega)
 have e4:IntKind.i64.wrap ((HX:Int)+o)=R:=by rw[IntWalk.i64_in _ (by omega)];omega
 have hneg:¬((H:Int)<0):=by omega
 have hres:(v:Int)*n=if n<0 then-(P:Int)else(P:Int):=by
  have:(P:Int)=(v:Int)*x:=by rw[hPe];simp
  split
  ·rw[this,show n= -(x:Int)by omega,Int.mul_neg]
  ·rw[this,show n=(x:Int)by omega]
 have HO:=hid (fun X=>zLV X (P:Int) (by omega))
 rw[hwP]at HO
 rw[hw0,hres]
 clear hwP
 obtain⟨s,hs⟩:=exq (w.heap.size)
 obtain⟨wa,hwa⟩:=exq ((w.alloc (.cells #[.int .i64 H,.int .u64 l] 100)).alloc (.cells #[.int .i64 0,.int .u64 0] 100))
 have hba:Below w.heap.size w wa:=by rw[hwa];exact((Below.refl _ _).alloc (Nat.le_refl _) _).alloc (by simp) _
 have l0:=zAZ (W:=wa) (b:=s) (o:=0) (by rw[hwa,hs];simp;omega) (show _=some (.int .i64 H)by rw[hwa,hs,World.cell?_alloc_past _ _ _ (by simp),World.cell?_alloc_at _ _ _ _ rfl];rfl)
 have l1:=zAZ (W:=wa) (b:=s) (o:=1) (by rw[hwa,hs];simp;omega) (show _=some (.int .u64 l)by rw[hwa,hs,World.cell?_alloc_past _ _ _ (by simp),World.cell?_alloc_at _ _ _ _ rfl];rfl)
 have q0:wa.heap[s+1]? =some (.cells #[.int .i64 0,.int .u64 0] 100 (0,0)):=by
  have:=World.alloc_heap_new (w.alloc (.cells #[.int .i64 H,.int .u64 l] 100)) (.cells #[.int .i64 0,.int .u64 0] 100)
  rw[hwa,hs]
  simpa using this
 have hs1:s+1<wa.heap.size:=(Array.getElem?_eq_some_iff.1 q0).1
 have HS:=hid (fun(Y:World) (hY:Below wa.heap.size wa Y)=>show Y.cell? ⟨s,0,none⟩=some (.int .i64 H)from by
  refine(hY.cell (p:=⟨s,0,none⟩) (by show s<_;omega)).trans ?_
  rw[hwa,hs,World.cell?_alloc_past _ _ _ (by simp),World.cell?_alloc_at _ _ _ _ rfl];rfl)
 have HR:=hid (fun(Y:World) (hY:Below wa.heap.size wa Y)=>show Y.cell? ⟨s+1,0,none⟩=some (.int .i64 0)∧Y.cell? ⟨s+1,1,none⟩=some (.int .u64 0)∧Y.frozen? ⟨s+1,0,none⟩=false∧Y.frozen? ⟨s+1,1,none⟩=false∧s+1<Y.heap.size from by
  have h1:=(hY.block (s+1) hs1).trans q0
  exact⟨by simp[World.cell?,h1],by simp[World.cell?,h1],by simp[World.frozen?,h1],by simp[World.frozen?,h1],(Array.getElem?_eq_some_iff.1 h1).1⟩)
 have HFIN:=hid (fun(Y:World) (hY:Below wa.heap.size wa Y) (u v:Value)=>show Below w.heap.size w ((Y.setCell ⟨s+1,0,none⟩ u).setCell ⟨s+1,1,none⟩ v)from
  zAG (zAG (zAA hba hY) (by omega) 0 u) (by omega) 1 v)
 clear hx hv hH hl hPn hP hmul hHX ho hr hPe hPd hsum hr1 hw0 hR hres h0 hV hn q0 hs1 hba
 go_enter Tryz.func151,Tryz.ntmps151
 go_wp2_with fail
 rw[<- hs,<- hwa]
 clear hs hwa
 go_wp2
 refine zDF (by kernel_rfl) (by kernel_rfl) ?_
 repeat (go_big_quiet_step (first
  | (go_at_call 210;exact zCE ((HSZ.out _).mono fun e w' ⟨h1,h2⟩=>⟨h1,h2▸Below.refl _ _⟩))
  | (go_at_call 209;exact zCE ((HM.out _).mono fun e w' ⟨h1,h2⟩=>⟨h1,h2▸Below.refl _ _⟩))))
 refine wpQuiet_nil ?_
 rintro _ ⟨X,rfl⟩
 have HB1:=hid (zCW wa X)
 go_wp2
 refine zAF (fun j' X=>wAll j'=true->X.cell? ⟨s,0,none⟩=some (.int .i64 H)) (by kernel_rfl) ?_
 have hbd:Below wa.heap.size wa (lift wa X).drew:=HB1.out.drew
 generalize (lift wa X).drew=wd at hbd⊢
 refine AnyT.tD (i:=0) (v:=.pointer (some ⟨s,0,none⟩)) rfl rfl (by rintro w' y1;go_simp) (HS.out _ hbd) ?_;go_frame
 refine AnyT.tD (i:=1) (v:=.int .i64 H) rfl rfl (by rintro w' y1;go_simp) (HS.out _ hbd) ?_;go_frame
 refine AnyT.tD (i:=2) (v:=.int .i64 n) rfl rfl (by rintro w' y1;go_simp) (HS.out _ hbd) ?_;go_frame
 refine AnyT.tD (i:=6) (v:=.int .u64 o) rfl rfl (by rintro w' y1;go_simp) (HS.out _ hbd) ?_;go_frame
 refine AnyT.tD (i:=7) (v:=.int .i64 o) rfl rfl (by rintro w' y1;go_simp) (HS.out _ hbd) ?_;go_frame
 refine AnyT.tD (i:=9) (v:=.int .u64 r) rfl rfl (by rintro w' y1;go_simp) (HS.out _ hbd) ?_;go_frame
 refine AnyT.nextB (i:=3) (j:=11) (by kernel_rfl) (wpOp_of_list rfl ?_) (wpOp_of_list rfl ?_)
 ·go_wp2_with (go_at_call 210;refine(HSZ.out _).mono ?_;rintro e w1 ⟨rfl,rfl⟩;refine Stop.of ?_)
  refine Stop.go ?_
  go_wp2
  refine⟨fun _=>HS.out _ hbd,?_⟩
  refine AnyT.tD (i:=4) (v:=.int .i64 x) rfl rfl (by rintro w' y1;go_simp) (HS.out _ hbd) ?_;go_frame
  refine AnyT.tD (i:=5) (v:=.int .i64 HX) rfl rfl (by rintro w' y1;go_simp) (HS.out _ hbd) ?_;go_frame
  refine AnyT.tD (i:=8) (v:=.int .i64 R) rfl rfl (by rintro w' y1;go_simp) (HS.out _ hbd) ?_;go_frame
  refine AnyT.tD (i:=10) (v:=.agg #[.int .i64 R,.int .u64 r]) rfl rfl (by rintro w' y1;go_simp) (HS.out _ hbd) ?_;go_frame
  refine AnyT.nx (i:=11) rfl ?_
  have hbA:Below wa.heap.size wa (wd.alloc (.cells #[.int .i64 0,.int .u64 0] 100)):=hbd.alloc hbd.size _
  go_wp2
  refine⟨fun _=>HS.out _ hbA,?_⟩
  refine AnyT.nx (i:=12) rfl ?_
  have hbF:Below wa.heap.size wa (wd.alloc (.cells #[.int .i64 R,.int .u64 r] 100)):=hbd.alloc hbd.size _
  have HBF:=hid hbF
  have HR2:=hid (HR.out _ hbF)
  have HQ:=hid (show ∀Y,Below (wd.alloc (.cells #[.int .i64 R,.int .u64 r] 100)).heap.size (wd.alloc (.cells #[.int .i64 R,.int .u64 r] 100)) Y->Y.cell? ⟨wd.heap.size,0,none⟩=some (.int .i64 R)∧Y.cell? ⟨wd.heap.size,1,none⟩=some (.int .u64 r)from fun Y hY=>by
   have h1:=(hY.block wd.heap.size (by simp)).trans (World.alloc_heap_new wd _)
   exact⟨by simp[World.cell?,h1],by simp[World.cell?,h1]⟩)
  clear hbA
  go_wp2
  refine⟨fun _=>HS.out _ HBF.out,?_⟩
  refine AnyT.done (by kernel_rfl) ?_ _
  clear hbF hbd
  obtain⟨wz,hwz⟩:=exq (wd.alloc (.cells #[.int .i64 R,.int .u64 r] 100))
  rw[<- hwz]at HBF HR2 HQ⊢
  clear hwz
  obtain⟨c0,c1,f0,f1,hlt⟩:=HR2.out
  obtain⟨d0,d1⟩:=HQ.out wz (Below.refl _ _)
  by_cases hn0:n<0
  ·have hnb:decide (n<0)=true:=by simp[hn0]
   go_wp2_with (go_at_call 149;refine(HO.out wz).mono ?_;rintro e w2 ⟨rfl,hb2⟩;refine Stop.of ?_)
   refine Stop.go ?_
   have HB2:=hid (zAA HBF.out hb2)
   obtain⟨c0,c1,f0,f1,hlt⟩:=HR.out _ HB2.out
   have HFI:=hid (HFIN.out _ HB2.out)
   have hwz:=(show zCJ (-(P:Int))=.agg #[.int .i64 ((-(P:Int))/18446744073709551616),.int .u64 ((-(P:Int))%18446744073709551616)]from rfl)
   obtain⟨z1,hz1⟩:=exq ((-(P:Int))/18446744073709551616)
   obtain⟨z2,hz2⟩:=exq ((-(P:Int))%18446744073709551616)
   rw[<- hz1,<- hz2]at hwz
   have HWZ:=hid hwz
   rw[hwz]
   clear hwz hb2 HFIN hz1 hz2
   go_wp2
   refine bodyPost_ret (v:=.agg #[.int .i64 z1,.int .u64 z2]) ?_ rfl ⟨by first|rw[HWZ.out]|rw[if_pos (by omega),HWZ.out],HFI.out _ _⟩
   simp[results,Tryz.results151,go_sem,c0,c1,f0,f1,hlt]
  ·have hnb:decide (n<0)=false:=by simp[hn0]
   have HFI:=hid (HFIN.out _ HBF.out)
   clear HFIN
   go_wp2
   refine bodyPost_ret (v:=.agg #[.int .i64 R,.int .u64 r]) ?_ rfl ⟨by first|rw[HWP.out]|rw[if_neg (by omega),HWP.out],HFI.out _ _⟩
   simp[results,Tryz.results151,go_sem,c0,c1,f0,f1,hlt]
 ·go_wp2
  have hbA:Below wa.heap.size wa (wd.alloc (.cells #[.int .i64 0,.int .u64 0] 100)):=hbd.alloc hbd.size _
  refine⟨fun _=>HS.out _ hbA,?_⟩
  refine AnyT.nx (i:=3) rfl ?_
  go_wp2_with (go_at_call 210;refine(HSZ.out _).mono ?_;rintro e w1 ⟨rfl,rfl⟩;refine Stop.of ?_)
  refine Stop.go ?_
  go_wp2
  refine⟨fun _=>HS.out _ hbA,?_⟩
  refine AnyT.tD (i:=4) (v:=.int .i64 x) rfl rfl (by rintro w' y1;go_simp) (HS.out _ hbA) ?_;go_frame
  refine AnyT.tD (i:=5) (v:=.int .i64 HX) rfl rfl (by rintro w' y1;go_simp) (HS.out _ hbA) ?_;go_frame
  refine AnyT.tD (i:=8) (v:=.int .i64 R) rfl rfl (by rintro w' y1;go_simp) (HS.out _ hbA) ?_;go_frame
  refine AnyT.tD (i:=10) (v:=.agg #[.int .i64 R,.int .u64 r]) rfl rfl (by rintro w' y1;go_simp) (HS.out _ hbA) ?_;go_frame
  refine AnyT.nx (i:=12) rfl ?_
  have hbF:Below wa.heap.size wa (wd.alloc (.cells #[.int .i64 R,.int .u64 r] 100)):=hbd.alloc hbd.size _
  have HBF:=hid hbF
  have HR2:=hid (HR.out _ hbF)
  have HQ:=hid (show ∀Y,Below (wd.alloc (.cells #[.int .i64 R,.int .u64 r] 100)).heap.size (wd.alloc (.cells #[.int .i64 R,.int .u64 r] 100)) Y->Y.cell? ⟨wd.heap.size,0,none⟩=some (.int .i64 R)∧Y.cell? ⟨wd.heap.size,1,none⟩=some (.int .u64 r)from fun Y hY=>by
   have h1:=(hY.block wd.heap.size (by simp)).trans (World.alloc_heap_new wd _)
   exact⟨by simp[World.cell?,h1],by simp[World.cell?,h1]⟩)
  clear hbA
  go_wp2
  refine⟨fun _=>HS.out _ HBF.out,?_⟩
  refine AnyT.done (by kernel_rfl) ?_ _
  clear hbF hbd
  obtain⟨wz,hwz⟩:=exq (wd.alloc (.cells #[.int .i64 R,.int .u64 r] 100))
  rw[<- hwz]at HBF HR2 HQ⊢
  clear hwz
  obtain⟨c0,c1,f0,f1,hlt⟩:=HR2.out
  obtain⟨d0,d1⟩:=HQ.out wz (Below.refl _ _)
  by_cases hn0:n<0
  ·have hnb:decide (n<0)=true:=by simp[hn0]
   go_wp2_with (go_at_call 149;refine(HO.out wz).mono ?_;rintro e w2 ⟨rfl,hb2⟩;refine Stop.of ?_)
   refine Stop.go ?_
   have HB2:=hid (zAA HBF.out hb2)
   obtain⟨c0,c1,f0,f1,hlt⟩:=HR.out _ HB2.out
   have HFI:=hid (HFIN.out _ HB2.out)
   have hwz:=(show zCJ (-(P:Int))=.agg #[.int .i64 ((-(P:Int))/18446744073709551616),.int .u64 ((-(P:Int))%18446744073709551616)]from rfl)
   obtain⟨z1,hz1⟩:=exq ((-(P:Int))/18446744073709551616)
   obtain⟨z2,hz2⟩:=exq ((-(P:Int))%18446744073709551616)
   rw[<- hz1,<- hz2]at hwz
   have HWZ:=hid hwz
   rw[hwz]
   clear hwz hb2 HFIN hz1 hz2
   go_wp2
   refine bodyPost_ret (v:=.agg #[.int .i64 z1,.int .u64 z2]) ?_ rfl ⟨by first|rw[HWZ.out]|rw[if_pos (by omega),HWZ.out],HFI.out _ _⟩
   simp[results,Tryz.results151,go_sem,c0,c1,f0,f1,hlt]
  ·have hnb:decide (n<0)=false:=by simp[hn0]
   have HFI:=hid (HFIN.out _ HBF.out)
   clear HFIN
   go_wp2
   refine bodyPost_ret (v:=.agg #[.int .i64 R,.int .u64 r]) ?_ rfl ⟨by first|rw[HWP.out]|rw[if_neg (by omega),HWP.out],HFI.out _ _⟩
   simp[results,Tryz.results151,go_sem,c0,c1,f0,f1,hlt]
theorem zHB(w:World)(V n:Int)(hV: -170141183460469231731687303715884105728<V∧V<170141183460469231731687303715884105728)(hn: -9223372036854775808<n∧n<=9223372036854775807)(hP:(V.natAbs*n.natAbs:Nat)<170141183460469231731687303715884105728):
 Calls Tryz.prog 151 #[zCJ V,.int .i64 n] w fun e w'=>e=.returned (zCJ (V*n))∧Below w.heap.size w w':=by
 by_cases h0:0<=V
 ·refine wtimes0_c w V n h0 hV.2 hn ?_
  rw[show V=((V.natAbs:Nat):Int)by omega,<- Int.natCast_mul]
  omega
 ·have HT:=hid (fun X=>wtimes0_c X (-V) n (by omega) (by omega) hn (by
   rw[show-V=((V.natAbs:Nat):Int)by omega,<- Int.natCast_mul]
   omega))
  have HO1:=hid (fun X=>zLV X V hV)
  have hbn: -170141183460469231731687303715884105728< -V*n∧ -V*n<170141183460469231731687303715884105728:=by
   have e:(-V*n).natAbs=V.natAbs*n.natAbs:=by rw[Int.natAbs_mul,Int.natAbs_neg]
   rw[<- e]at hP
   omega
  have HO2:=hid (fun X=>zLV X (-V*n) hbn)
  have hve: -(-V*n)=V*n:=by rw[Int.neg_mul,Int.neg_neg]
  rw[hve]at HO2
  obtain⟨Z,hZ⟩:=exq (V*n)
  obtain⟨Y,hY⟩:=exq (-V*n)
  rw[<- hZ]at HO2⊢
  rw[<- hY]at HT HO2
  obtain⟨a,ha⟩:=exq (V/18446744073709551616)
  obtain⟨l,hl⟩:=exq (V%18446744073709551616)
  have hw0:zCJ V=.agg #[.int .i64 a,.int .u64 l]:=by unfold zCJ;rw[<- ha,<- hl]
  have hwz:zCJ Z=.agg #[.int .i64 (Z/18446744073709551616),.int .u64 (Z%18446744073709551616)]:=rfl
  obtain⟨z1,hz1⟩:=exq (Z/18446744073709551616)
  obtain⟨z2,hz2⟩:=exq (Z%18446744073709551616)
  rw[<- hz1,<- hz2]at hwz
  rw[hw0]at HO1⊢
  rw[hwz]at HO2⊢
  have haN:a<0:=by omega
  obtain⟨s,hs⟩:=exq (w.heap.size)
  obtain⟨wa,hwa⟩:=exq ((w.alloc (.cells #[.int .i64 a,.int .u64 l] 100)).alloc (.cells #[.int .i64 0,.int .u64 0] 100))
  have hba:Below w.heap.size w wa:=by rw[hwa];exact((Below.refl _ _).alloc (Nat.le_refl _) _).alloc (by simp) _
  have q0:wa.heap[s+1]? =some (.cells #[.int .i64 0,.int .u64 0] 100 (0,0)):=by
   have:=World.alloc_heap_new (w.alloc (.cells #[.int .i64 a,.int .u64 l] 100)) (.cells #[.int .i64 0,.int .u64 0] 100)
   rw[hwa,hs]
   simpa using this
  have hs1:s+1<wa.heap.size:=(Array.getElem?_eq_some_iff.1 q0).1
  have c00:wa.cell? ⟨s,0,none⟩=some (.int .i64 a):=by rw[hwa,hs,World.cell?_alloc_past _ _ _ (by simp),World.cell?_alloc_at _ _ _ _ rfl];rfl
  have c01:wa.cell? ⟨s,1,none⟩=some (.int .u64 l):=by rw[hwa,hs,World.cell?_alloc_past _ _ _ (by simp),World.cell?_alloc_at _ _ _ _ rfl];rfl
  have HR:=hid (fun(Y:World) (hY:Below wa.heap.size wa Y)=>show Y.cell? ⟨s+1,0,none⟩=some (.int .i64 0)∧Y.cell? ⟨s+1,1,none⟩=some (.int .u64 0)∧Y.frozen? ⟨s+1,0,none⟩=false∧Y.frozen? ⟨s+1,1,none⟩=false∧s+1<Y.heap.size from by
   have h1:=(hY.block (s+1) hs1).trans q0
   exact⟨by simp[World.cell?,h1],by simp[World.cell?,h1],by simp[World.frozen?,h1],by simp[World.frozen?,h1],(Array.getElem?_eq_some_iff.1 h1).1⟩)
  have HFIN:=hid (fun(Y:World) (hY:Below wa.heap.size wa Y) (u v:Value)=>show Below w.heap.size w ((Y.setCell ⟨s+1,0,none⟩ u).setCell ⟨s+1,1,none⟩ v)from
   zAG (zAG (zAA hba hY) (by omega) 0 u) (by omega) 1 v)
  clear hV hn hP h0 hbn hve hZ hY ha hl hw0 hwz hz1 hz2 q0 hs1 hba
  go_enter Tryz.func151,Tryz.ntmps151
  go_wp2_with fail
  rw[<- hs,<- hwa]
  clear hs hwa
  go_wp2_with (go_at_call 149;refine(HO1.out _).mono ?_;rintro e w1 ⟨rfl,hb1⟩;refine Stop.of ?_)
  refine Stop.go ?_
  have HB1:=hid hb1
  clear hb1
  go_wp2_with (go_at_call 151;refine(HT.out _).mono ?_;rintro e w2 ⟨rfl,hb2⟩;refine Stop.of ?_)
  refine Stop.go ?_
  have HB2:=hid (zAA HB1.out hb2)
  clear hb2
  go_wp2_with (go_at_call 149;refine(HO2.out _).mono ?_;rintro e w3 ⟨rfl,hb3⟩;refine Stop.of ?_)
  refine Stop.go ?_
  have hb:=zAA HB2.out hb3
  obtain⟨c0,c1,f0,f1,hlt⟩:=HR.out _ hb
  have HFI:=hid (HFIN.out _ hb)
  clear hb hb3 HFIN
  go_wp2
  refine bodyPost_ret (v:=.agg #[.int .i64 z1,.int .u64 z2]) ?_ rfl ⟨rfl,HFI.out _ _⟩
  simp[results,Tryz.results151,go_sem,c0,c1,f0,f1,hlt]
end
section
open Go.RowKit Go.Lib
def B127(V:Int):Prop:= -170141183460469231731687303715884105728<V∧V<170141183460469231731687303715884105728
def WP(V a b:Int):Prop:=a=V/18446744073709551616∧b=V%18446744073709551616
theorem WP.ex(V:Int):∃a b,WP V a b:=⟨_,_,rfl,rfl⟩
theorem WP.val{V a b:Int}(h:WP V a b):zCJ V=.agg #[.int .i64 a,.int .u64 b]:=by rw[h.1,h.2];rfl
theorem WP.sum{V U a b c d:Int}(h:WP V a b)(k:WP U c d):sumV V U=.agg #[.int .i64 a,.int .u64 b,.int .i64 c,.int .u64 d]:=by rw[h.1,h.2,k.1,k.2];rfl
theorem zJT(w:World)(n d N D t:Int)(hn:B127 n)(hd:B127 d)(hD: -9223372036854775808<D∧D<=9223372036854775807)(hNt: -9223372036854775808<N*t∧N*t<=9223372036854775807)
 (h1:B127 (n*D))(h2:B127 (d*(N*t)))(h3:B127 (n*D+d*(N*t)))(h4:B127 (d*D)):
 Calls Tryz.prog 96 #[sumV n d,ratV (N,D),.int .i64 t] w fun e w'=>e=.returned (sumV (n*D+d*(N*t)) (d*D))∧Below w.heap.size w w':=by
 have nb:∀a b:Int,B127 (a*b)->(a.natAbs*b.natAbs:Nat)<170141183460469231731687303715884105728:=fun a b h=>by
  rw[<- Int.natAbs_mul];unfold B127 at h;omega
 have HT1:=hid (fun X=>zHB X n D hn hD (nb _ _ h1))
 have HT2:=hid (fun X=>zHB X d (N*t) hd hNt (nb _ _ h2))
 have HT3:=hid (fun X=>zHB X d D hd hD (nb _ _ h4))
 have HPL:=hid (fun X=>zJP X (n*D) (d*(N*t)) (by unfold B127 at h3;omega) (by unfold B127 at h1;omega) (by unfold B127 at h2;omega))
 have hnt:IntKind.i64.wrap (N*t)=N*t:=IntWalk.i64_in _ (by omega)
 obtain⟨n1,n2,pn⟩:=WP.ex n
 obtain⟨d1,d2,pd⟩:=WP.ex d
 obtain⟨a1,a2,pA⟩:=WP.ex (n*D)
 obtain⟨b1,b2,pB⟩:=WP.ex (d*(N*t))
 obtain⟨s1,s2,pS⟩:=WP.ex (n*D+d*(N*t))
 obtain⟨c1,c2,pC⟩:=WP.ex (d*D)
 rw[pn.val,pA.val]at HT1
 rw[pd.val,pB.val]at HT2
 rw[pd.val,pC.val]at HT3
 rw[pA.val,pB.val,pS.val]at HPL
 rw[pn.sum pd,pS.sum pC]
 obtain⟨m,hm⟩:=exq (N*t)
 rw[<- hm]at HT2
 have hmul:IntKind.i64.wrap (N*t)=m:=by rw[hnt,hm]
 clear hnt hm nb hn hd hD hNt h1 h2 h3 h4 pn pd pA pB pS pC
 obtain⟨s,hs⟩:=exq (w.heap.size)
 obtain⟨wa,hwa⟩:=exq (((w.alloc (.cells #[.int .i64 n1,.int .u64 n2,.int .i64 d1,.int .u64 d2] 102)).alloc (.cells #[.int .i64 N,.int .i64 D] 29)).alloc (.cells #[.int .i64 0,.int .u64 0,.int .i64 0,.int .u64 0] 102))
 have hba:Below w.heap.size w wa:=by rw[hwa];exact(((Below.refl _ _).alloc (Nat.le_refl _) _).alloc (by simp) _).alloc (by simp;omega) _
 have q0:wa.heap[s+2]? =some (.cells #[.int .i64 0,.int .u64 0,.int .i64 0,.int .u64 0] 102 (0,0)):=by
  have:=World.alloc_heap_new ((w.alloc (.cells #[.int .i64 n1,.int .u64 n2,.int .i64 d1,.int .u64 d2] 102)).alloc (.cells #[.int .i64 N,.int .i64 D] 29)) (.cells #[.int .i64 0,.int .u64 0,.int .i64 0,.int .u64 0] 102)
  rw[hwa,hs]
  simpa using this
 have hs1:s+2<wa.heap.size:=(Array.getElem?_eq_some_iff.1 q0).1
 have hc:∀o v,(#[Value.int .i64 n1,.int .u64 n2,.int .i64 d1,.int .u64 d2]:Array Value)[o]? =some v->wa.cell? ⟨s,o,none⟩=some v:=fun o v h=>by
  rw[hwa,hs,World.cell?_alloc_past _ _ _ (by simp;omega),World.cell?_alloc_past _ _ _ (by simp),World.cell?_alloc_at _ _ _ _ rfl];exact h
 have hc2:∀o v,(#[Value.int .i64 N,.int .i64 D]:Array Value)[o]? =some v->wa.cell? ⟨s+1,o,none⟩=some v:=fun o v h=>by
  rw[hwa,hs,World.cell?_alloc_past _ _ _ (by simp),World.cell?_alloc_at _ _ _ _ (by simp)];exact h
 have HS:=hid (fun(Y:World) (hY:Below wa.heap.size wa Y)=>show Y.cell? ⟨s,0,none⟩=some (.int .i64 n1)∧Y.cell? ⟨s,1,none⟩=some (.int .u64 n2)∧Y.cell? ⟨s,2,none⟩=some (.int .i64 d1)∧Y.cell? ⟨s,3,none⟩=some (.int .u64 d2)∧Y.cell? ⟨s+1,0,none⟩=some (.int .i64 N)∧Y.cell? ⟨s+1,1,none⟩=some (.int .i64 D)from by
  have k0:∀o,Y.cell? ⟨s,o,none⟩=wa.cell? ⟨s,o,none⟩:=fun o=>hY.cell (p:=⟨s,o,none⟩) (by show s<_;omega)
  have k1:∀o,Y.cell? ⟨s+1,o,none⟩=wa.cell? ⟨s+1,o,none⟩:=fun o=>hY.cell (p:=⟨s+1,o,none⟩) (by show s+1<_;omega)
  exact⟨(k0 0).trans (hc 0 _ rfl),(k0 1).trans (hc 1 _ rfl),(k0 2).trans (hc 2 _ rfl),(k0 3).trans (hc 3 _ rfl),(k1 0).trans (hc2 0 _ rfl),(k1 1).trans (hc2 1 _ rfl)⟩)
 have HR:=hid (fun(Y:World) (hY:Below wa.heap.size wa Y)=>show Y.cell? ⟨s+2,0,none⟩=some (.int .i64 0)∧Y.cell? ⟨s+2,1,none⟩=some (.int .u64 0)∧Y.cell? ⟨s+2,2,none⟩=some (.int .i64 0)∧Y.cell? ⟨s+2,3,none⟩=some (.int .u64 0)∧(∀o,Y.frozen? ⟨s+2,o,none⟩=false)∧s+2<Y.heap.size from by
  have h1:=(hY.block (s+2) hs1).trans q0
  exact⟨by simp[World.cell?,h1],by simp[World.cell?,h1],by simp[World.cell?,h1],by simp[World.cell?,h1],fun o=>by simp[World.frozen?,h1],(Array.getElem?_eq_some_iff.1 h1).1⟩)
 have HFIN:=hid (fun(Y:World) (hY:Below wa.heap.size wa Y) (u v x z:Value)=>show Below w.heap.size w ((((Y.setCell ⟨s+2,0,none⟩ u).setCell ⟨s+2,1,none⟩ v).setCell ⟨s+2,2,none⟩ x).setCell ⟨s+2,3,none⟩ z)from
  zAG (zAG (zAG (zAG (zAA hba hY) (by omega) 0 u) (by omega) 1 v) (by omega) 2 x) (by omega) 3 z)
 have HFA:=hid (fun(Y:World) (hY:Below wa.heap.size wa Y) (u v x z:Value)=>show Below wa.heap.size wa wa∧∀o:Nat,True from⟨Below.refl _ _,fun _=>trivial⟩)
 clear hba q0 hs1 hc hc2 HFA
 go_enter Tryz.func96,Tryz.ntmps96
 simp only[ratV]
 go_wp2_with fail
 rw[<- hs,<- hwa]
 clear hs hwa
 refine zAF (fun j' X=>decide (j'<=18)=true->X.cell? ⟨s,0,none⟩=some (.int .i64 n1)∧X.cell? ⟨s,1,none⟩=some (.int .u64 n2)∧X.cell? ⟨s,2,none⟩=some (.int .i64 d1)∧X.cell? ⟨s,3,none⟩=some (.int .u64 d2)∧X.cell? ⟨s+1,0,none⟩=some (.int .i64 N)∧X.cell? ⟨s+1,1,none⟩=some (.int .i64 D)) (by kernel_rfl) ?_
 have hbd:Below wa.heap.size wa wa.drew:=(Below.refl _ _).drew
 generalize wa.drew=wd at hbd⊢
 refine AnyT.tD (i:=0) (v:=.pointer (some ⟨s,0,none⟩)) rfl rfl (by rintro w' ⟨y1,y2,y3,y4,y5,y6⟩;go_simp) (HS.out _ hbd) ?_;go_frame
 refine AnyT.tD (i:=1) (v:=.agg #[.int .i64 n1,.int .u64 n2]) rfl rfl (by rintro w' ⟨y1,y2,y3,y4,y5,y6⟩;go_simp) (HS.out _ hbd) ?_;go_frame
 refine AnyT.tD (i:=2) (v:=.pointer (some ⟨s+1,1,none⟩)) rfl rfl (by rintro w' ⟨y1,y2,y3,y4,y5,y6⟩;go_simp) (HS.out _ hbd) ?_;go_frame
 refine AnyT.tD (i:=3) (v:=.int .i64 D) rfl rfl (by rintro w' ⟨y1,y2,y3,y4,y5,y6⟩;go_simp) (HS.out _ hbd) ?_;go_frame
 refine AnyT.tD (i:=5) (v:=.pointer (some ⟨s,2,none⟩)) rfl rfl (by rintro w' ⟨y1,y2,y3,y4,y5,y6⟩;go_simp) (HS.out _ hbd) ?_;go_frame
 refine AnyT.tD (i:=6) (v:=.agg #[.int .i64 d1,.int .u64 d2]) rfl rfl (by rintro w' ⟨y1,y2,y3,y4,y5,y6⟩;go_simp) (HS.out _ hbd) ?_;go_frame
 refine AnyT.tD (i:=7) (v:=.pointer (some ⟨s+1,0,none⟩)) rfl rfl (by rintro w' ⟨y1,y2,y3,y4,y5,y6⟩;go_simp) (HS.out _ hbd) ?_;go_frame
 refine AnyT.tD (i:=8) (v:=.int .i64 N) rfl rfl (by rintro w' ⟨y1,y2,y3,y4,y5,y6⟩;go_simp) (HS.out _ hbd) ?_;go_frame
 refine AnyT.tD (i:=9) (v:=.int .i64 t) rfl rfl (by rintro w' ⟨y1,y2,y3,y4,y5,y6⟩;go_simp) (HS.out _ hbd) ?_;go_frame
 refine AnyT.tD (i:=10) (v:=.int .i64 m) rfl rfl (by rintro w' ⟨y1,y2,y3,y4,y5,y6⟩;go_simp) (HS.out _ hbd) ?_;go_frame
 refine AnyT.tD (i:=13) (v:=.pointer (some ⟨s,2,none⟩)) rfl rfl (by rintro w' ⟨y1,y2,y3,y4,y5,y6⟩;go_simp) (HS.out _ hbd) ?_;go_frame
 refine AnyT.tD (i:=14) (v:=.agg #[.int .i64 d1,.int .u64 d2]) rfl rfl (by rintro w' ⟨y1,y2,y3,y4,y5,y6⟩;go_simp) (HS.out _ hbd) ?_;go_frame
 refine AnyT.tD (i:=15) (v:=.pointer (some ⟨s+1,1,none⟩)) rfl rfl (by rintro w' ⟨y1,y2,y3,y4,y5,y6⟩;go_simp) (HS.out _ hbd) ?_;go_frame
 refine AnyT.tD (i:=16) (v:=.int .i64 D) rfl rfl (by rintro w' ⟨y1,y2,y3,y4,y5,y6⟩;go_simp) (HS.out _ hbd) ?_;go_frame
 refine AnyT.nx (i:=4) rfl ?_
 go_wp2_with (go_at_call 151;refine(HT1.out _).mono ?_;rintro e w1 ⟨rfl,hbw1⟩;refine Stop.of ?_)
 refine Stop.go ?_
 have HB1:=hid (zAA hbd hbw1)
 clear hbw1
 go_wp2
 refine⟨fun _=>HS.out _ HB1.out,?_⟩
 refine AnyT.nx (i:=11) rfl ?_
 go_wp2_with (go_at_call 151;refine(HT2.out _).mono ?_;rintro e w2 ⟨rfl,hbw2⟩;refine Stop.of ?_)
 refine Stop.go ?_
 have HB2:=hid (zAA HB1.out hbw2)
 clear hbw2
 go_wp2
 refine⟨fun _=>HS.out _ HB2.out,?_⟩
 refine AnyT.nx (i:=12) rfl ?_
 go_wp2_with (go_at_call 161;refine(HPL.out _).mono ?_;rintro e w3 ⟨rfl,hbw3⟩;refine Stop.of ?_)
 refine Stop.go ?_
 have HB3:=hid (zAA HB2.out hbw3)
 clear hbw3
 go_wp2
 refine⟨fun _=>HS.out _ HB3.out,?_⟩
 refine AnyT.nx (i:=17) rfl ?_
 go_wp2_with (go_at_call 151;refine(HT3.out _).mono ?_;rintro e w4 ⟨rfl,hbw4⟩;refine Stop.of ?_)
 refine Stop.go ?_
 have HB4:=hid (zAA HB3.out hbw4)
 clear hbw4
 go_wp2
 refine⟨fun _=>HS.out _ HB4.out,?_⟩
 refine AnyT.nx (i:=18) rfl ?_
 go_wp2
 refine⟨fun _=>HS.out _ HB4.out,?_⟩
 refine AnyT.nx (i:=19) rfl ?_
 obtain⟨c00,c01,c02,c03,hfz,hlt⟩:=HR.out _ HB4.out
 have f0:=hfz 0
 have f1:=hfz 1
 have f2:=hfz 2
 have f3:=hfz 3
 have HFI:=hid (HFIN.out _ HB4.out)
 clear HFIN hfz
 go_wp2
 refine⟨fun h=>absurd h (by decide),?_⟩
 refine AnyT.done (by kernel_rfl) ?_ _
 go_wp2
 refine bodyPost_ret (v:=.agg #[.int .i64 s1,.int .u64 s2,.int .i64 c1,.int .u64 c2]) ?_ rfl ⟨rfl,HFI.out _ _ _ _⟩
 simp[results,Tryz.results96,go_sem,c00,c01,c02,c03,f0,f1,f2,f3,hlt]
theorem zJX(w:World)(n d y:Int)(hd:B127 d)(hy: -9223372036854775808<y∧y<=9223372036854775807)(h1:B127 (d*y)):
 Calls Tryz.prog 155 #[sumV n d,.int .i64 y] w fun e w'=>e=.returned (.int .i64 (cmpI n (d*y)))∧Below w.heap.size w w':=by
 have HT:=hid (fun X=>zHB X d y hd hy (by rw[<- Int.natAbs_mul];unfold B127 at h1;omega))
 have HC:=hid (fun X=>zDQ X n (d*y))
 obtain⟨n1,n2,pn⟩:=WP.ex n
 obtain⟨d1,d2,pd⟩:=WP.ex d
 obtain⟨a1,a2,pA⟩:=WP.ex (d*y)
 rw[pd.val,pA.val]at HT
 rw[pn.val,pA.val]at HC
 rw[pn.sum pd]
 obtain⟨c,hc⟩:=exq (cmpI n (d*y))
 rw[<- hc]at HC⊢
 clear hc hd hy h1 pn pd pA
 obtain⟨wz,hwz⟩:=exq (w.alloc (.cells #[.int .i64 n1,.int .u64 n2,.int .i64 d1,.int .u64 d2] 102))
 have hbz:Below w.heap.size w wz:=by rw[hwz];exact(Below.refl _ _).alloc (Nat.le_refl _) _
 have hsz:w.heap.size<wz.heap.size:=by rw[hwz];simp
 have hcl:∀o v,(#[Value.int .i64 n1,.int .u64 n2,.int .i64 d1,.int .u64 d2]:Array Value)[o]? =some v->wz.cell? ⟨w.heap.size,o,none⟩=some v:=fun o v h=>by
  rw[hwz,World.cell?_alloc_at _ _ _ _ rfl];exact h
 have l0:=zAZ hsz (hcl 0 _ rfl)
 have l1:=zAZ hsz (hcl 1 _ rfl)
 have l2:=zAZ hsz (hcl 2 _ rfl)
 have l3:=zAZ hsz (hcl 3 _ rfl)
 have HBZ:=hid hbz
 clear hbz hsz hcl
 go_enter Tryz.func155,Tryz.ntmps155
 go_wp2_with fail
 rw[<- hwz]
 clear hwz
 refine zDF (by kernel_rfl) (by kernel_rfl) ?_
 repeat (go_big_quiet_step (first
  | (go_at_call 151;exact zCE (HT.out _))
  | (go_at_call 207;exact zCE (HC.out _))))
 refine wpQuiet_nil ?_
 rintro _ ⟨X,rfl⟩
 have hfin:=zAA HBZ.out (zCW wz X)
 go_wp2
 go_ret
 exact⟨rfl,hfin⟩
end
section
open Go.RowKit Go.Lib
def zAH(r:Rt):Bool:=decide (1<=r.2)&&(decide (r.2<=400)&&(decide (-10000000000<=r.1)&&(decide (r.1<=10000000000)&&decide (Int.gcd r.1 r.2=1))))
theorem zAW{r:Rt}:zAH r=true↔1<=r.2∧r.2<=400∧ -10000000000<=r.1∧r.1<=10000000000∧Int.gcd r.1 r.2=1:=by
 unfold zAH;simp only[Bool.and_eq_true,decide_eq_true_eq]
theorem zLQ(w:World)(N D:Int):Calls Tryz.prog 147 #[.agg #[.int .i64 N,.int .i64 D]] w fun e w'=>e=.returned (.bool (zAH (N,D)))∧Below w.heap.size w w':=by
 obtain⟨wz,hwz⟩:=exq (w.alloc (.cells #[.int .i64 N,.int .i64 D] 29))
 have hbz:Below w.heap.size w wz:=by rw[hwz];exact(Below.refl _ _).alloc (Nat.le_refl _) _
 have l0:wz.cell? ⟨w.heap.size,0,none⟩=some (.int .i64 N):=by rw[hwz,World.cell?_alloc_at _ _ _ _ rfl];rfl
 have l1:wz.cell? ⟨w.heap.size,1,none⟩=some (.int .i64 D):=by rw[hwz,World.cell?_alloc_at _ _ _ _ rfl];rfl
 have HBZ:=hid hbz
 have HV:=hid (show zAH (N,D)=(decide (1<=D)&&(decide (D<=400)&&(decide (-10000000000<=N)&&(decide (N<=10000000000)&&decide (Int.gcd N D=1)))))from rfl)
 clear hbz
 by_cases h1:1<=D
 ·by_cases h2:D<=400
  ·by_cases h3: -10000000000<=N
   ·by_cases h4:N<=10000000000
    ·have HD:=hid (fun X=>zJG X N D (by omega) (by omega))
     obtain⟨g,hg⟩:∃g:Int,g=((Int.gcd N D:Nat):Int):=⟨_,rfl⟩
     rw[<- hg]at HD
     have HB:=hid (show zAH (N,D)=(g==1)from by
      rw[HV.out,decide_eq_true h1,decide_eq_true h2,decide_eq_true h3,decide_eq_true h4]
      simp only[Bool.true_and]
      rw[Bool.eq_iff_iff,decide_eq_true_iff]
      simp only[beq_iff_eq]
      omega)
     have d1:decide (1<=D)=true:=by simp;omega
     have d2:decide (D<=400)=true:=by simp;omega
     have d3:decide (-10000000000<=N)=true:=by simp;omega
     have d4:decide (N<=10000000000)=true:=by simp;omega
     clear hg HV
     go_enter Tryz.func147,Tryz.ntmps147
     go_wp2_with fail
     rw[<- hwz]
     clear hwz
     go_wp2_with (go_at_call 206;refine(HD.out _).mono ?_;rintro e w2 ⟨rfl,k2,rfl⟩;refine Stop.of ?_)
     refine Stop.go ?_
     go_wp2
     go_ret
     exact⟨zAT (by rw[HB.out]),zAJ HBZ.out k2⟩
    ·have HB:=hid (show zAH (N,D)=false from by rw[HV.out,decide_eq_false h4];simp)
     have d4:decide (N<=10000000000)=false:=by simp;omega
     clear HV
     go_enter Tryz.func147,Tryz.ntmps147
     go_wp2_with fail
     rw[<- hwz]
     clear hwz
     go_wp2
     go_ret
     exact⟨zAT (by rw[HB.out]),HBZ.out⟩
   ·have HB:=hid (show zAH (N,D)=false from by rw[HV.out,decide_eq_false h3];simp)
    have d3:decide (-10000000000<=N)=false:=by simp;omega
    clear HV
    go_enter Tryz.func147,Tryz.ntmps147
    go_wp2_with fail
    rw[<- hwz]
    clear hwz
    go_wp2
    go_ret
    exact⟨zAT (by rw[HB.out]),HBZ.out⟩
  ·have HB:=hid (show zAH (N,D)=false from by rw[HV.out,decide_eq_false h2];simp)
   have d2:decide (D<=400)=false:=by simp;omega
   clear HV
   go_enter Tryz.func147,Tryz.ntmps147
   go_wp2_with fail
   rw[<- hwz]
   clear hwz
   go_wp2
   go_ret
   exact⟨zAT (by rw[HB.out]),HBZ.out⟩
 ·have HB:=hid (show zAH (N,D)=false from by rw[HV.out,decide_eq_false h1];simp)
  have d1:decide (1<=D)=false:=by simp;omega
  clear HV
  go_enter Tryz.func147,Tryz.ntmps147
  go_wp2_with fail
  rw[<- hwz]
  clear hwz
  go_wp2
  go_ret
  exact⟨zAT (by rw[HB.out]),HBZ.out⟩
theorem linvalid_c(w:World)(N D:Int):Calls Tryz.prog 154 #[.agg #[.int .i64 N,.int .i64 D]] w fun e w'=>e=.returned (.bool (!zAH (N,D)))∧Below w.heap.size w w':=by
 obtain⟨wz,hwz⟩:=exq (w.alloc (.cells #[.int .i64 N,.int .i64 D] 29))
 have HB:=hid (show Below w.heap.size w wz by rw[hwz];exact(Below.refl _ _).alloc (Nat.le_refl _) _)
 have l0:wz.cell? ⟨w.heap.size,0,none⟩=some (.int .i64 N):=by rw[hwz,World.cell?_alloc_at _ _ _ _ rfl];rfl
 have l1:wz.cell? ⟨w.heap.size,1,none⟩=some (.int .i64 D):=by rw[hwz,World.cell?_alloc_at _ _ _ _ rfl];rfl
 have HV:=hid (zLQ wz N D)
 obtain⟨b,hb⟩:=exq (zAH (N,D))
 rw[<- hb]at HV⊢
 clear hb
 go_enter Tryz.func154,Tryz.ntmps154
 go_wp2_with fail
 rw[<- hwz]
 clear hwz
 go_wp2_with (go_at_call 147;refine HV.out.mono ?_;rintro e w2 ⟨rfl,hb2⟩;refine Stop.of ?_)
 refine Stop.go ?_
 go_wp2
 go_ret
 exact⟨rfl,zAA HB.out hb2⟩
theorem indexInv(w:World)(a:Option Addr)(n cap:Nat)(l:List Rt)(hn:l.length=n)(hm:n<=maxLen)(H:zBE w a l):
 Calls Tryz.prog 146 #[.slice a n cap,.func (.func 154) #[] #[]] w fun e w'=>e=.returned (.int .i64 (idxP (fun r=>!zAH r) l 0))∧Below w.heap.size w w':=by
 have HN:=hid hn
 have HH:=hid H
 have HP:=hid (fun(X:World) (N D:Int)=>linvalid_c X N D)
 have eg:=enters_of Tryz.func154 (by kernel_rfl) rfl
 clear hn H
 unfold maxLen at hm
 go_enter Tryz.func146,Tryz.ntmps146
 go_wp2
 go_loopw [8] (fun i wr=>∃k:Nat,k<=n∧i=.int .i64 k∧Below w.heap.size w wr∧∀i y,i<k->l[i]? =some y->(!zAH y)=false) (fun i _=>n-(intOf i).toNat)
 case atStart=>exact⟨0,Nat.zero_le _,rfl,Below.refl _ _,fun i y h=>by omega⟩
 case round=>
  obtain⟨k,hk,rfl,hb,hno⟩:=hrel
  have HNO:=hid hno
  clear hno
  by_cases hlt:k<n
  ·have hkl:k<l.length:=by rw[HN.out];exact hlt
   obtain⟨b,off,rfl,hbs,h0,h1⟩:=(HH.out.below hb) k hkl
   have HK:=hid (List.getElem?_eq_getElem hkl)
   obtain⟨⟨r1,r2⟩,hr⟩:∃r,r=l[k]'hkl:=⟨_,rfl⟩
   rw[<- hr]at h0 h1 HK
   simp only[]at h0 h1
   have HC:=hid (HP.out wr r1 r2)
   obtain⟨B,hB⟩:=exq (zAH (r1,r2))
   rw[<- hB]at HC
   have HBB:=hid hB.symm
   clear hr hB hkl
   go_wp2_with (refine HC.out.mono ?_;rintro e w1 ⟨rfl,hb1⟩;refine Stop.of ?_)
   refine Stop.go ?_
   cases B
   ·go_wp2
    go_ret
    refine⟨zDB ?_,zAA hb hb1⟩
    rw[zKF (fun r=>!zAH r) l 0 k _ HK.out (by simp[HBB.out]) HNO.out];simp
   ·go_wp2
    refine⟨⟨k+1,by omega,by go_num,zAA hb hb1,?_⟩,by simp[intOf];omega⟩
    intro i y hi hy
    by_cases e:i=k
    ·subst e;rw[HK.out]at hy;cases hy;simp[HBB.out]
    ·exact HNO.out i y (by omega) hy
  ·go_wp2
   go_ret
   refine⟨zDB ?_,hb⟩
   rw[zHI]
   intro x hx
   obtain⟨i,hi,e⟩:=List.getElem_of_mem hx
   exact HNO.out i x (by have:=HN.out;omega) (by rw[List.getElem?_eq_getElem hi,e])
theorem containsInv(w:World)(a:Option Addr)(n cap:Nat)(l:List Rt)(hn:l.length=n)(hm:n<=maxLen)(H:zBE w a l):
 Calls Tryz.prog 80 #[.slice a n cap,.func (.func 154) #[] #[]] w fun e w'=>e=.returned (.bool (!l.all zAH))∧Below w.heap.size w w':=by
 have HC:=hid (indexInv w a n cap l hn hm H)
 have HG:=zNA (fun r=>!zAH r) l 0
 have HG':=hid HG
 clear hn H HG
 go_enter Tryz.func80,Tryz.ntmps80
 go_wp2_with (refine HC.out.mono ?_;rintro e w1 ⟨rfl,hb1⟩)
 go_ret
 refine⟨zAT ?_,hb1⟩
 rw[Bool.eq_iff_iff,decide_eq_true_iff,HG'.out,List.not_all_eq_any_not]
theorem lreading_c(w:World)(a a2:Option Addr)(n cap n2 cap2:Nat)(M:Mask)(y:List Int)(hn:M.length=n)(hn2:y.length=n2)(hm:n<=maxLen)(hm2:n2<=maxLen)(H:zAN w a M)(H2:zAI w a2 y):
 Calls Tryz.prog 153 #[.slice a n cap,.slice a2 n2 cap2] w fun e w'=>e=.returned (.bool (decide (rdE M y=0)))∧Below w.heap.size w w':=by
 have HC:=hid (zKM w a a2 none n cap n2 cap2 0 0 M y [] hn hn2 rfl hm hm2 (by decide) H H2 (fun j hj=>by simp at hj))
 rw[<- zIJ]at HC
 obtain⟨E,hE⟩:=exq (rdE M y)
 rw[<- hE]at HC⊢
 clear hE hn hn2 H H2
 go_enter Tryz.func153,Tryz.ntmps153
 go_wp2_with (go_at_call 101;refine HC.out.mono ?_;rintro e w1 ⟨rfl,hb1⟩;refine Stop.of ?_)
 refine Stop.go ?_
 go_wp2
 go_ret
 exact⟨zAT (by rw[Bool.eq_iff_iff];simp),hb1⟩
end
end
section
open Go.RowKit
def NatV(w:World)(v:Value)(L:Nat)(N:Int):Prop:=∃a n cap,∃l:List Int,v=.slice a n cap∧l.length=n∧n<=L∧zAI w a l∧DigL l∧zGG l∧valN l=N
theorem NatV.below{w w':World}{v:Value}{L:Nat}{N:Int}(h:NatV w v L N)(hb:Below w.heap.size w w'):NatV w' v L N:=by
 obtain⟨a,n,cap,l,h1,h2,h3,h4,h5⟩:=h
 exact⟨a,n,cap,l,h1,h2,h3,h4.below hb,h5⟩
theorem NatV.le{w:World}{v:Value}{L K:Nat}{N:Int}(h:NatV w v L N)(hk:L<=K):NatV w v K N:=by
 obtain⟨a,n,cap,l,h1,h2,h3,h4⟩:=h
 exact⟨a,n,cap,l,h1,h2,by omega,h4⟩
theorem NatV.nonneg{w:World}{v:Value}{L:Nat}{N:Int}(h:NatV w v L N):0<=N:=by
 obtain⟨a,n,cap,l,h1,h2,h3,h4,h5,h6,h7⟩:=h
 rw[<- h7];exact h5.bnd.1
theorem zPR(w:World)(a:Option Addr)(n cap:Nat)(l:List Int)(hn:l.length=n)(hm:n<=1000)(H:zAI w a l)(i:Nat):
 Calls Tryz.prog 140 #[.slice a n cap,.int .i64 i] w fun e w'=>e=.returned (.int .i64 (digF l i))∧w=w':=by
 by_cases h:i<n
 ·obtain⟨b,o,rfl,hb,hc⟩:=H i (by omega)
  have hv:l[i]?.getD 0=digF l i:=rfl
  rw[hv]at hc
  have i1:(i:Int)<(n:Int):=by omega
  obtain⟨d,hd⟩:=exq (digF l i)
  rw[<- hd]at hc⊢
  clear H hn hv hd
  go_enter Tryz.func140,Tryz.ntmps140
  go_wp2
  go_ret
  exact⟨rfl,rfl⟩
 ·have i1:¬(i:Int)<(n:Int):=by omega
  have hd:digF l i=0:=by unfold digF;rw[List.getElem?_eq_none (by omega)];rfl
  rw[hd]
  clear H hn hd
  go_enter Tryz.func140,Tryz.ntmps140
  go_wp2
  go_ret
  exact⟨rfl,rfl⟩
theorem li_nat:(Tryz.prog.info? 3).map (fun i=>(i.zero,i.size,i.bytes))=some (some (.int .i64 0),1,8):=by kernel_rfl
theorem natOf_c(w:World)(n:Int)(h0:0<=n)(h1:n<=9223372036854775807):
 Calls Tryz.prog 74 #[.int .i64 n] w fun e w'=>∃v,e=.returned v∧NatV w' v 3 n∧Below w.heap.size w w':=by
 have p3:pw 3=1000000000000000000000000000:=by decide+kernel
 go_enter Tryz.func74,Tryz.ntmps74
 go_wp2
 go_loopw [0,3] (fun m v wr=>∃(k:Int) (l:List Int),0<=k∧k<=n∧m=.int .i64 k∧wr.ownsRow w.heap.size 3 1 v l.length (l.map (Value.int .i64))∧Below w.heap.size w wr∧Hid (l.length<=3∧DigL l∧valN l+pw l.length*k=n∧(0<l.length->pw (l.length-1)<=n))) (fun m _ _=>(intOf m).toNat)
 case atStart=>exact⟨n,[],h0,Int.le_refl _,rfl,World.ownsRow_nil _ _ _ _,Below.refl _ _,hid ⟨by decide,DigL.nil,by simp[valN,pw],fun h=>by simp at h⟩⟩
 case round=>
  obtain⟨k,l,hk0,hkn,rfl,hown,hbk,HI⟩:=hrel
  by_cases hk:0<k
  ·obtain⟨L,hL⟩:=exq (l.length)
   rw[<- hL]at hown
   obtain⟨va,vc,rfl⟩:=zAD hown
   have HO:=hid hown
   obtain⟨i1,i2,i3,i4⟩:=HI.out
   have hb:=i2.bnd
   have hpk:pw l.length<=n:=by
    have h2:=zKZ l.length
    have:pw l.length*1<=pw l.length*k:=Int.mul_le_mul_of_nonneg_left (by omega) (by omega)
    omega
   have hl2:l.length<=2:=by
    rcases Nat.lt_or_ge 2 l.length with h|h
    ·have:=pw_mono (show 3<=l.length by omega);omega
    ·exact h
   have et:k.tmod 1000000000=k%1000000000:=Int.tmod_eq_emod_of_nonneg hk0
   have ed:k.tdiv 1000000000=k/1000000000:=Int.tdiv_eq_ediv_of_nonneg hk0
   have HN:=hid (show(l++[k%1000000000]).length<=3∧DigL (l++[k%1000000000])∧valN (l++[k%1000000000])+pw (l++[k%1000000000]).length*(k/1000000000)=n∧(0<(l++[k%1000000000]).length->pw ((l++[k%1000000000]).length-1)<=n)from by
    refine⟨by simp;omega,i2.snoc (by omega) (by omega),?_,fun _=>by simpa using hpk⟩
    rw[zFM,List.length_append]
    simp only[List.length_cons,List.length_nil,Nat.zero_add]
    rw[pw]
    have:k=k%1000000000+1000000000*(k/1000000000):=by omega
    generalize k%1000000000=r at this⊢
    generalize k/1000000000=q at this⊢
    subst this
    grind)
   obtain⟨r,hr⟩:=exq (k%1000000000)
   obtain⟨q,hq⟩:=exq (k/1000000000)
   rw[<- hr]at et HN
   rw[<- hq]at ed HN
   have hr1:0<=r∧r<1000000000:=by omega
   have hq1:0<=q∧q<k:=by omega
   have M1:=hid (show L+1<=maxLen by unfold maxLen;omega)
   have M2:=hid (show(L+1)*8<=140737488355328 by omega)
   have M3:=hid (Nat.le_trans hbk.size (zCH wr (.cells #[.int .i64 r] 3)))
   have HLL:=hid hL
   clear hown i1 i2 i3 i4 hb hpk hl2 hr hq hL HI p3
   go_wp2_with (at_builtin;refine zAQ _ rfl (.tmp 8) (.tmp 11) 35 rfl w.heap.size 3 (.int .i64 0) 1 8 Tryz.underlying35 li_nat rfl Nat.one_pos (.slice va L vc) L _ rfl (HO.out.alloc _) (some ⟨wr.heap.size,0,none⟩) 1 1 [.int .i64 r] rfl rfl zCD (zBT wr _ _) (zEE _) M1.out M2.out M3.out ?_;refine Stop.of ?_)
   refine Stop.go ?_
   intro a3 c3 w3 own3 g3
   have hB3:Below w.heap.size w w3:=(hbk.alloc hbk.size _).grown g3 M3.out (fun k hk=>(HO.out.lt k hk).1)
   go_wp2
   refine⟨⟨q,l++[r],hq1.1,by omega,rfl,?_,hB3,HN⟩,by simp[intOf];omega⟩
   rw[List.length_append,<- HLL.out]
   simpa using own3
  ·obtain rfl:k=0:=by omega
   obtain⟨va,vc,rfl⟩:=zAD hown
   have HO:=hid hown
   obtain⟨i1,i2,i3,i4⟩:=HI.out
   rw[Int.mul_zero,Int.add_zero]at i3
   have HNV:=hid (show ∀a c,(Value.slice va l.length vc=.slice a l.length c->zAI wr a l->NatV wr (.slice va l.length vc) 3 n)from fun a c e hI=>⟨a,l.length,c,l,e,rfl,i1,hI,i2,zGG.of_low i2 (fun h=>by rw[i3];exact i4 h),i3⟩)
   obtain⟨a5,c5,e5,hI5,_⟩:=zCS hown rfl
   have HF:=hid (HNV.out a5 c5 e5 hI5)
   clear hown i1 i2 i3 i4 HI HNV e5 hI5 p3
   go_wp2
   go_ret
   exact⟨_,rfl,HF.out,hbk⟩
def lenOf:Value->Nat
 | .slice _ k _=>k
 |_=>0
theorem trimmed_c(w:World)(a:Option Addr)(n cap:Nat)(l:List Int)(hn:l.length=n)(hm:n<=1000)(hc:n<=cap)(H:zAI w a l)(hd:DigL l):
 Calls Tryz.prog 141 #[.slice a n cap] w fun e w'=>∃v,e=.returned v∧NatV w' v n (valN l)∧Below w.heap.size w w':=by
 have HN:=hid hn
 have HH:=hid H
 have HD:=hid hd
 clear hn H hd
 go_enter Tryz.func141,Tryz.ntmps141
 go_wp2
 go_loopw [0] (fun v wr=>∃k:Nat,k<=n∧v=.slice a k cap∧wr=w∧Hid (valN (l.take k)=valN l)) (fun v _=>lenOf v)
 case atStart=>exact⟨n,Nat.le_refl _,rfl,rfl,hid (zEH (by rw[HN.out];exact Nat.le_refl _))⟩
 case round=>
  obtain⟨k,hk,rfl,rfl,HV⟩:=hrel
  have hfin:zGG (l.take k)->NatV wr (.slice a k cap) n (valN l):=fun ht=>by
   refine⟨a,k,cap,l.take k,rfl,by rw[List.length_take,HN.out];omega,hk,fun j hj=>?_,HD.out.take k,ht,HV.out⟩
   rw[List.length_take]at hj
   obtain⟨b,o,e,hb,hc⟩:=HH.out j (by omega)
   refine⟨b,o,e,hb,?_⟩
   rw[hc,List.getElem?_take_of_lt (by omega)]
  have HF:=hid hfin
  clear hfin
  rcases Nat.eq_zero_or_pos k with hk0|hk0
  ·subst hk0
   have hF:=HF.out (by rw[List.take_zero];exact zGG.nil)
   have HFF:=hid hF
   clear hF HF
   go_wp2
   go_ret
   exact⟨_,rfl,HFF.out,Below.refl _ _⟩
  ·obtain⟨j,rfl⟩:∃j,k=j+1:=⟨k-1,by omega⟩
   obtain⟨b,o,rfl,hb,hcj⟩:=HH.out j (by rw[HN.out];omega)
   have hv:l[j]?.getD 0=digF l j:=rfl
   rw[hv]at hcj
   have htv:=zEG l j
   have HX:=hid (fun(h:digF l j=0)=>show valN (l.take j)=valN l from by rw[<- HV.out,htv,h];simp)
   have HY:=hid (fun(h:digF l j≠0)=>HF.out (by
    have hjl:j<l.length:=by rw[HN.out];omega
    rw[List.take_succ_eq_append_getElem hjl]
    unfold zGG
    simp only[List.getLast?_append,List.getLast?_singleton]
    intro e
    refine h ?_
    unfold digF
    rw[List.getElem?_eq_getElem hjl]
    simpa using e))
   obtain⟨d,hdd⟩:=exq (digF l j)
   rw[<- hdd]at hcj HX HY
   have i1:((j+1:Nat):Int)-1=(j:Int):=by omega
   have i2:(j:Int)<((j+1:Nat):Int):=by omega
   have i3:(0:Int)<((j+1:Nat):Int):=by omega
   have i4:IntKind.i64.wrap (((j+1:Nat):Int)-1)=(j:Int):=by rw[i1];exact IntWalk.i64_in _ (by omega)
   have i5:(j:Int)<=(cap:Int):=by omega
   obtain⟨J,hJ⟩:=exq (j+1)
   rw[<- hJ]at i1 i2 i3 i4 hk HY HF⊢
   by_cases h0:d=0
   ·have hz:=HX.out h0
    have HZ:=hid hz
    have hjn:j<=n:=by omega
    have hJJ:j<J:=by omega
    subst h0
    clear hz HX HY HF hv htv hdd HV hJ
    go_wp2
    exact⟨⟨j,hjn,rfl,by first|trivial|rfl,HZ⟩,by simp[lenOf];omega⟩
   ·have hF:=HY.out h0
    have HFF:=hid hF
    have hdb:(d==0)=false:=by simp[h0]
    clear hF HX HY HF hv htv hdd HV hJ
    go_wp2
    go_ret
    exact⟨_,rfl,HFF.out,Below.refl _ _⟩
theorem ord_len{l m:List Int}(hl:DigL l)(hm:DigL m)(tl:zGG l)(tm:zGG m)(h:l.length≠m.length):cmpI (valN l) (valN m)=if l.length<m.length then-1 else 1:=by
 unfold cmpI
 by_cases c:l.length<m.length
 ·rw[if_pos c,if_pos (trim_lt hl hm tm c)]
 ·have:=trim_lt hm hl tl (by omega)
  rw[if_neg c,if_neg (by omega),if_neg (by omega)]
theorem cmp_swap(V U:Int)(h:U<V):cmpI V U=1:=by unfold cmpI;rw[if_neg (by omega),if_neg (by omega)]
theorem order_c(w:World)(v u:Value)(L K:Nat)(N M:Int)(h:NatV w v L N)(k:NatV w u K M)(hL:L<=1000)(hK:K<=1000):
 Calls Tryz.prog 77 #[v,u] w fun e w'=>e=.returned (.int .i64 (cmpI N M))∧Below w.heap.size w w':=by
 obtain⟨a,n,cap,l,rfl,hn,hnL,H,hd,ht,rfl⟩:=h
 obtain⟨a2,n2,cap2,m,rfl,hn2,hnK,H2,hd2,ht2,rfl⟩:=k
 by_cases hlen:n=n2
 rotate_left
 ·have hc:=ord_len hd hd2 ht ht2 (by omega)
  rw[hn,hn2]at hc
  rw[hc]
  have hneb:((n:Int) !=(n2:Int))=true:=by simp;omega
  clear H H2 hd hd2 ht ht2 hc hn hn2
  by_cases c:n<n2
  ·have i1:(n:Int)<(n2:Int):=by omega
   rw[if_pos c]
   go_enter Tryz.func77,Tryz.ntmps77
   go_wp2
   go_ret
   exact⟨rfl,Below.refl _ _⟩
  ·have i1:¬(n:Int)<(n2:Int):=by omega
   rw[if_neg c]
   go_enter Tryz.func77,Tryz.ntmps77
   go_wp2
   go_ret
   exact⟨rfl,Below.refl _ _⟩
 subst hlen
 have HT:=hid (fun(i:Nat) (he:∀j,i<j->digF l j=digF m j) (hi:i<n)=>(show(digF l i<digF m i->cmpI (valN l) (valN m)= -1)∧(digF m i<digF l i->cmpI (valN l) (valN m)=1)from
  ⟨fun h=>by unfold cmpI;rw[if_pos (top_lt hd hd2 he (by omega) h (by omega))],fun h=>cmp_swap _ _ (top_lt hd2 hd (fun j hj=>(he j hj).symm) (by omega) h (by omega))⟩))
 have HE:=hid (fun(he:∀j,digF l j=digF m j)=>show cmpI (valN l) (valN m)=0 from by
  have:l=m:=List.ext_getElem (by omega) fun i h1 h2=>by
   have:=he i
   unfold digF at this
   rw[List.getElem?_eq_getElem h1,List.getElem?_eq_getElem h2]at this
   simpa using this
  rw[this];unfold cmpI;rw[if_neg (by omega),if_pos rfl])
 obtain⟨C,hC⟩:=exq (cmpI (valN l) (valN m))
 rw[<- hC]at HT HE⊢
 have HH:=hid (fun(X:World) (hX:Below w.heap.size w X)=>H.below hX)
 have HH2:=hid (fun(X:World) (hX:Below w.heap.size w X)=>H2.below hX)
 have HN:=hid hn
 have HN2:=hid hn2
 have hsub:IntKind.i64.wrap ((n:Int)-1)=(n:Int)-1:=IntWalk.i64_in _ (by omega)
 have hneb:((n:Int) !=(n:Int))=false:=by simp
 have HOUT:=hid (show ∀j,n<=j->digF l j=digF m j from fun j hj=>by
  unfold digF
  rw[List.getElem?_eq_none (by omega),List.getElem?_eq_none (by omega)])
 clear H H2 hd hd2 ht ht2 hC hn hn2
 go_enter Tryz.func77,Tryz.ntmps77
 go_wp2
 go_loopw [5] (fun i wr=>∃k:Nat,k<=n∧i=.int .i64 ((k:Int)-1)∧Below w.heap.size w wr∧Hid (∀j,k<=j->digF l j=digF m j)) (fun i _=>(intOf i+1).toNat)
 case atStart=>exact⟨n,Nat.le_refl _,by simp,Below.refl _ _,HOUT⟩
 case round=>
  obtain⟨k,hk,rfl,hbk,HQ⟩:=hrel
  rcases Nat.eq_zero_or_pos k with hk0|hk0
  ·subst hk0
   obtain rfl:C=0:=HE.out fun j=>HQ.out j (Nat.zero_le _)
   go_wp2
   go_ret
   exact⟨rfl,hbk⟩
  ·obtain⟨j,rfl⟩:∃j,k=j+1:=⟨k-1,by omega⟩
   obtain⟨b,o,rfl,hb,hc⟩:=(HH.out wr hbk) j (by rw[HN.out];omega)
   obtain⟨b2,o2,rfl,hb2,hc2⟩:=(HH2.out wr hbk) j (by rw[HN2.out];omega)
   have hv:l[j]?.getD 0=digF l j:=rfl
   have hv2:m[j]?.getD 0=digF m j:=rfl
   rw[hv]at hc
   rw[hv2]at hc2
   obtain⟨HT1,HT2⟩:=HT.out j (fun i hi=>HQ.out i (by omega)) (by omega)
   have HX:=hid (fun(h:digF l j=digF m j)=>show ∀i,j<=i->digF l i=digF m i from fun i hi=>by
    rcases Nat.lt_or_ge j i with h1|h1
    ·exact HQ.out i (by omega)
    ·obtain rfl:i=j:=by omega
     exact h)
   obtain⟨x,hx⟩:=exq (digF l j)
   obtain⟨y,hy⟩:=exq (digF m j)
   rw[<- hx,<- hy]at HX HT1 HT2
   rw[<- hx]at hc
   rw[<- hy]at hc2
   have e1:((j+1:Nat):Int)-1=(j:Int):=by omega
   rw[e1]
   have i1:(j:Int)<(n:Int):=by omega
   have i2:IntKind.i64.wrap ((j:Int)-1)=(j:Int)-1:=IntWalk.i64_in _ (by omega)
   clear hv hv2 hx hy HQ HT HE e1
   rcases Int.lt_trichotomy x y with c|c|c
   ·obtain rfl:C= -1:=HT1 c
    have HBK:=hid hbk
    clear HT1 HT2 hbk
    go_wp2
    go_quiet (fail)
    go_wp2
    go_ret
    exact⟨rfl,zAJ HBK.out _⟩
   ·have hz:=HX.out c
    have HZ:=hid hz
    subst c
    have HBK:=hid hbk
    clear HT1 HT2 hz HX hbk
    go_wp2
    go_quiet (fail)
    go_wp2
    go_quiet (fail)
    go_wp2
    refine⟨⟨j,by omega,rfl,zAJ HBK.out _,HZ⟩,by simp[intOf]⟩
   ·obtain rfl:C=1:=HT2 c
    have i3:¬x<y:=by omega
    have HBK:=hid hbk
    clear HT1 HT2 hbk
    go_wp2
    go_quiet (fail)
    go_wp2
    go_quiet (fail)
    go_wp2
    go_ret
    exact⟨rfl,zAJ (zAJ HBK.out _) _⟩
end
section
open Go.RowKit
theorem plus_c(w:World)(v u:Value)(L K:Nat)(N M:Int)(h:NatV w v L N)(k:NatV w u K M)(hL:L<=400)(hK:K<=400):
 Calls Tryz.prog 76 #[v,u] w fun e w'=>∃x,e=.returned x∧NatV w' x (max L K+1) (N+M)∧Below w.heap.size w w':=by
 obtain⟨a,n,cap,l,rfl,hn,hnL,H,hd,ht,rfl⟩:=h
 obtain⟨a2,n2,cap2,m,rfl,hn2,hnK,H2,hd2,ht2,rfl⟩:=k
 have HD1:=hid (fun(X:World) (hX:Below w.heap.size w X) (i:Nat)=>zPR X a n cap l hn (by omega) (H.below hX) i)
 have HD2:=hid (fun(X:World) (hX:Below w.heap.size w X) (i:Nat)=>zPR X a2 n2 cap2 m hn2 (by omega) (H2.below hX) i)
 obtain⟨T,hT⟩:=exq (max n n2)
 have hTL:T<=max L K:=by omega
 -- how the sum grows
 have HST:=hid (fun(i:Nat) (o:List Int) (c:Int) (ho:o.length=i) (hod:DigL o) (hc:0<=c∧c<=1) (hv:valN o+pw i*c=valN (l.take i)+valN (m.take i))=>
  show 0<=digF l i+digF m i+c∧digF l i+digF m i+c<=1999999999∧DigL (o++[(digF l i+digF m i+c)%1000000000])∧(0<=(digF l i+digF m i+c)/1000000000∧(digF l i+digF m i+c)/1000000000<=1)∧
   valN (o++[(digF l i+digF m i+c)%1000000000])+pw (i+1)*((digF l i+digF m i+c)/1000000000)=valN (l.take (i+1))+valN (m.take (i+1))from by
  have b1:=zEL hd i
  have b2:=zEL hd2 i
  refine⟨by omega,by omega,hod.snoc (by omega) (by omega),by omega,?_⟩
  rw[zFM,ho,zEG,zEG,pw]
  have:digF l i+digF m i+c=(digF l i+digF m i+c)%1000000000+1000000000*((digF l i+digF m i+c)/1000000000):=by omega
  generalize (digF l i+digF m i+c)%1000000000=r at this⊢
  generalize (digF l i+digF m i+c)/1000000000=q at this⊢
  have e:c=r+1000000000*q-digF l i-digF m i:=by omega
  subst e
  grind)
 -- the sum when no more is to be added
 have HEN:=hid (fun(i:Nat) (o:List Int) (ho:o.length=i) (hod:DigL o) (hi:T<=i) (hi2:i<=T+1) (hv:valN o+pw i*0=valN (l.take i)+valN (m.take i)) (hlast:T<i->pw T<=valN l+valN m)=>
  show valN o=valN l+valN m∧zGG o from by
  rw[zEH (show l.length<=i by omega),zEH (show m.length<=i by omega)]at hv
  refine⟨by omega,zGG.of_low hod fun hpos=>?_⟩
  rw[ho]at hpos⊢
  rcases Nat.lt_or_ge T i with c|c
  ·obtain rfl:i=T+1:=by omega
   have:=hlast c
   rw[Nat.add_sub_cancel];omega
  ·obtain rfl:i=T:=by omega
   have c1:=hd.bnd
   have c2:=hd2.bnd
   rcases Nat.lt_or_ge n n2 with c|c
   ·have:=ht2.low hd2 (by omega)
    rw[show m.length=i by omega]at this
    omega
   ·have:=ht.low hd (by omega)
    rw[show l.length=i by omega]at this
    omega)
 have HLA:=hid (fun(o:List Int) (hod:DigL o) (ho:o.length=T) (hv:valN o+pw T*1=valN (l.take T)+valN (m.take T))=>show pw T<=valN l+valN m from by
  rw[zEH (show l.length<=T by omega),zEH (show m.length<=T by omega)]at hv
  have:=hod.bnd
  omega)
 have HZD:=hid (fun(i:Nat) (hi:T<=i)=>show digF l i=0∧digF m i=0 from by
  unfold digF
  rw[List.getElem?_eq_none (by omega),List.getElem?_eq_none (by omega)]
  exact⟨rfl,rfl⟩)
 have HDB:=hid (fun(i:Nat)=>And.intro (zEL hd i) (zEL hd2 i))
 obtain⟨S,hS⟩:=exq (valN l+valN m)
 rw[<- hS]at HEN HLA⊢
 have hT1:n<=T:=by omega
 have hT2:n2<=T:=by omega
 have hT3:T=n∨T=n2:=by omega
 have hT4:T<=400:=by omega
 clear H H2 hd hd2 ht ht2 hn hn2 hS hT
 go_enter Tryz.func76,Tryz.ntmps76
 go_wp2
 go_loopw [5,6,7] (fun o c i wr=>∃(t:Nat) (ol:List Int) (cc:Int),t<=T+1∧i=.int .i64 t∧c=.int .i64 cc∧wr.ownsRow w.heap.size 3 1 o t (ol.map (Value.int .i64))∧Below w.heap.size w wr∧0<=cc∧cc<=1∧
  Hid (ol.length=t∧DigL ol∧valN ol+pw t*cc=valN (l.take t)+valN (m.take t)∧(T<t->cc=0∧pw T<=S))) (fun _ _ i _=>T+2-(intOf i).toNat)
 case atStart=>exact⟨0,[],0,Nat.zero_le _,rfl,rfl,World.ownsRow_nil _ _ _ _,Below.refl _ _,by decide,by decide,hid ⟨rfl,DigL.nil,by simp[valN],fun h=>by omega⟩⟩
 case round=>
  obtain⟨t,ol,cc,ht,rfl,rfl,hown,hbk,hc0,hc1,HI⟩:=hrel
  obtain⟨va,vc,rfl⟩:=zAD hown
  by_cases hgo:t<T∨0<cc
  ·have htT:t<=T:=by
    rcases hgo with h|h
    ·omega
    ·rcases Nat.lt_or_ge T t with c|c
     ·have:=(HI.out.2.2.2 c).1;omega
     ·exact c
   obtain⟨j1,j2,j3,j4,j5⟩:=HST.out t ol cc HI.out.1 HI.out.2.1 ⟨hc0,hc1⟩ HI.out.2.2.1
   have hlast:t=T->cc=1:=fun e=>by omega
   have HC1:=hid (HD1.out wr hbk t)
   have HC2:=hid (HD2.out wr hbk t)
   have HLT:=hid (show T<t+1->(digF l t+digF m t+cc)/1000000000=0∧pw T<=S from fun h=>by
    obtain rfl:t=T:=by omega
    have hcc:=hlast rfl
    subst hcc
    refine⟨?_,HLA.out ol HI.out.2.1 HI.out.1 HI.out.2.2.1⟩
    obtain⟨z1,z2⟩:=HZD.out t (Nat.le_refl _)
    rw[z1,z2];decide)
   obtain⟨⟨bx1,bx2⟩,by1,by2⟩:=HDB.out t
   obtain⟨x,hx⟩:=exq (digF l t)
   obtain⟨y,hy⟩:=exq (digF m t)
   rw[<- hx,<- hy]at j1 j2 j3 j4 j5 HLT
   rw[<- hx]at bx1 bx2
   rw[<- hy]at by1 by2
   rw[<- hx]at HC1
   rw[<- hy]at HC2
   have et:(x+y+cc).tmod 1000000000=(x+y+cc)%1000000000:=Int.tmod_eq_emod_of_nonneg j1
   have ed:(x+y+cc).tdiv 1000000000=(x+y+cc)/1000000000:=Int.tdiv_eq_ediv_of_nonneg j1
   obtain⟨z,hz⟩:=exq (x+y+cc)
   have e1:IntKind.i64.wrap (x+y)=x+y:=IntWalk.i64_in _ (by omega)
   have e2:IntKind.i64.wrap (x+y+cc)=z:=by rw[<- hz];exact IntWalk.i64_in _ (by omega)
   rw[<- hz]at et ed j1 j2 j3 j4 j5 HLT
   obtain⟨r,hr⟩:=exq (z%1000000000)
   obtain⟨q,hq⟩:=exq (z/1000000000)
   rw[<- hr]at et j3 j5
   rw[<- hq]at ed j4 j5 HLT
   have HNX:=hid (show(ol++[r]).length=t+1∧DigL (ol++[r])∧valN (ol++[r])+pw (t+1)*q=valN (l.take (t+1))+valN (m.take (t+1))∧(T<t+1->q=0∧pw T<=S)from⟨by simp[HI.out.1],j3,j5,HLT.out⟩)
   have HO:=hid hown
   have HBK:=hid hbk
   have M1:=hid (show t+1<=maxLen by unfold maxLen;omega)
   have M2:=hid (show(t+1)*8<=140737488355328 by omega)
   have M3:=hid (Nat.le_trans hbk.size (zCH wr (.cells #[.int .i64 r] 3)))
   have hgo3:t<n∨(¬t<n∧t<n2)∨(¬t<n∧¬t<n2∧0<cc):=by omega
   clear hown hbk HI HLT hx hy hz hr hq j1 j2 j3 j5 hlast hgo bx1 bx2 by1 by2 HST HEN HLA HZD HDB
   rcases hgo3 with g1|⟨g1,g2⟩|⟨g1,g2,g3⟩
   all_goals
    go_wp2_with (go_at_call 140;refine HC1.out.mono ?_;rintro e w1 ⟨rfl,rfl⟩;refine Stop.of ?_)
    refine Stop.go ?_
    go_wp2_with (go_at_call 140;refine HC2.out.mono ?_;rintro e w1 ⟨rfl,rfl⟩;refine Stop.of ?_)
    refine Stop.go ?_
    go_wp2_with (at_builtin;refine zAQ _ rfl (.tmp 34) (.tmp 37) 35 rfl w.heap.size 3 (.int .i64 0) 1 8 Tryz.underlying35 li_nat rfl Nat.one_pos (.slice va t vc) t _ rfl (HO.out.alloc _) (some ⟨wr.heap.size,0,none⟩) 1 1 [.int .i64 r] rfl rfl zCD (zBT wr _ _) (zEE _) M1.out M2.out M3.out ?_;refine Stop.of ?_)
    refine Stop.go ?_
    intro a3 c3 w3 own3 g3'
    have hB3:Below w.heap.size w w3:=(HBK.out.alloc HBK.out.size _).grown g3' M3.out (fun k hk=>(HO.out.lt k hk).1)
    go_wp2
    refine⟨⟨t+1,ol++[r],q,by omega,by go_num,rfl,?_,hB3,j4.1,j4.2,HNX⟩,by simp[intOf];omega⟩
    simpa using own3
  ·have g1:¬t<n:=by omega
   have g2:¬t<n2:=by omega
   have g3:¬0<cc:=by omega
   obtain rfl:cc=0:=by omega
   obtain⟨i1,i2,i3,i4⟩:=HI.out
   obtain⟨k1,k2⟩:=HEN.out t ol i1 i2 (by omega) ht i3 (fun h=>(i4 h).2)
   obtain⟨a5,c5,e5,hI5,_⟩:=zCS hown i1
   cases e5
   have HF:=hid (show NatV wr (.slice va t vc) (max L K+1) S from⟨va,t,vc,ol,rfl,i1,by omega,hI5,i2,k2,k1⟩)
   have HBK:=hid hbk
   clear hown hbk HI i1 i2 i3 i4 k1 k2 hI5
   go_wp2
   go_ret
   exact⟨_,rfl,HF.out,HBK.out⟩
end
end Go.Proofs.YtlffndehhhpgjaaGreat
