/- Walks and plain laws for DualRangesRow, part 19. -/
import Derived.Test.YtlffndehhhpgjaaGreatPkDualRangesRow18
namespace Go.Proofs.YtlffndehhhpgjaaGreat
set_option linter.unusedVariables false
set_option linter.unusedSimpArgs false
set_option maxRecDepth 100000
set_option maxHeartbeats 4000000
section
open Go.RowKit
def zDH(L:List (List Rt))(k:Nat):List Int:=((List.range k).filter fun p=>decide ((zCL L p).1=(zCL L p).2)).map fun p:Nat=>(p:Int)
theorem fixTo_len(L:List (List Rt))(k:Nat):(zDH L k).length<=k:=by
 unfold zDH
 rw[List.length_map]
 have:=List.length_filter_le (fun p=>decide ((zCL L p).1=(zCL L p).2)) (List.range k)
 rw[List.length_range]at this;exact this
theorem fixTo_yes{L:List (List Rt)}{k:Nat}(h:(zCL L k).1=(zCL L k).2):zDH L (k+1)=zDH L k++[(k:Int)]:=by
 unfold zDH
 rw[List.range_succ,List.filter_append,List.map_append]
 simp[h]
theorem fixTo_no{L:List (List Rt)}{k:Nat}(h:¬(zCL L k).1=(zCL L k).2):zDH L (k+1)=zDH L k:=by
 unfold zDH
 rw[List.range_succ,List.filter_append,List.map_append]
 simp[h]
def FixP(M:Mask)(Y:List Int)(e:Ending)(w':World):Prop:=∃a c,e=.returned (.tuple #[.slice a (zGM M Y).length c,.int .i64 (valE M Y).2])∧zAI w' a (zGM M Y)∧(zGM M Y).length<=maxLen
theorem dfixed_c(w:World)(a a2:Option Addr)(n cap n2 cap2:Nat)(M:Mask)(Y:List Int)(hn:M.length=n)(hn2:Y.length=n2)(hm:n<=maxLen)(hm2:n2<=maxLen)(H:zAN w a M)(H2:zAI w a2 Y):
 Calls Tryz.prog 44 #[.slice a n cap,.slice a2 n2 cap2] w fun e w'=>FixP M Y e w'∧Below w.heap.size w w':=by
 have HCO:=hid (zOE w a a2 n cap n2 cap2 M Y hn hn2 hm hm2 H H2)
 by_cases hv:(valE M Y).2=0
 rotate_left
 ·have HE:=hid (show zGM M Y=[]by unfold zGM;rw[if_pos hv])
  have hnf:((valE M Y).2 !=0)=true:=by simpa using hv
  obtain⟨F,hF⟩:=exq ((valE M Y).2)
  obtain⟨K,hK⟩:=exq ((zAU M Y).length)
  have HPP:=hid (show ∀e w',e=.returned (.tuple #[.slice none 0 0,.int .i64 F])->FixP M Y e w' from fun e w' he=>⟨none,0,by rw[HE.out,<- hF];exact he,by rw[HE.out];exact fun j hj=>by simp at hj,by rw[HE.out];decide⟩)
  have HCO0:=hid (show Calls Tryz.prog 37 #[.slice a n cap,.slice a2 n2 cap2] w fun e w'=>(∃ca c,e=.returned (.tuple #[.slice ca K c,.int .i64 F]))∧Below w.heap.size w w' from by
   refine HCO.out.mono ?_
   rintro e w' ⟨⟨ca,c,he,_⟩,hb⟩
   exact⟨⟨ca,c,by rw[he,hK,hF]⟩,hb⟩)
  rw[<- hF]at hnf
  clear hn hn2 H H2 hv hF hK HCO
  go_enter Tryz.func44,Tryz.ntmps44
  go_upto_region 2 with (go_at_call 37;refine HCO0.out.mono ?_;rintro e w1 ⟨⟨ca,cc,rfl⟩,hb1⟩;have HB1:=hid hb1;clear hb1;refine Stop.of ?_)
  refine Stop.go ?_
  go_wp2
  go_ret2
  exact⟨HPP.out _ _ rfl,HB1.out⟩
 obtain⟨hr0,ho⟩:=zLP hv
 obtain⟨hok,hyl,hmil⟩:=zHZ hr0
 obtain⟨hM,h1,h6,hc1,hc10⟩:=zCT hok
 obtain⟨b_,off_,ra,rc,rfl,hb,hc⟩:=zCS H (by omega)
 obtain⟨L,hL⟩:=exq (zAU M Y)
 have HPP:=hid (show ∀a c e w',e=.returned (.tuple #[.slice a (zDH L (zAB M)).length c,.int .i64 0])->zAI w' a (zDH L (zAB M))->(zDH L (zAB M)).length<=maxLen->FixP M Y e w' from fun a c e w' he hi hl=>by
  have e1:zGM M Y=zDH L (zAB M):=by unfold zGM zDH;rw[if_neg (fun h=>h hv),hL]
  exact⟨a,c,by rw[e1,hv];exact he,by rw[e1];exact hi,by rw[e1];exact hl⟩)
 have HSPN:=hid (fun(Z:World) (ca:Option Addr) (c P:Nat) (hP:P<zAB M) (k1:L.length<=11264) (k2:zDQ Z ca L)=>show Calls Tryz.prog 102 #[.slice ca L.length c,.int .i64 P] Z fun e w'=>e=.returned (.tuple #[.agg #[.int .i64 (zCL L P).1.1,.int .i64 (zCL L P).1.2],.agg #[.int .i64 (zCL L P).2.1,.int .i64 (zCL L P).2.2]])∧Below Z.heap.size Z w' from by
  obtain⟨g1,g2,g3⟩:=zJF hv hP
  rw[<- hL]at g1 g2 g3
  exact dspan_c Z ca L.length c P L rfl g1 k1 (by omega) k2 g2 g3)
 have HCO1:=hid (show Calls Tryz.prog 37 #[.slice (some ⟨b_,off_,none⟩) n cap,.slice a2 n2 cap2] w fun e w'=>(∃ca c,e=.returned (.tuple #[.slice ca L.length c,.int .i64 0])∧L.length<=11264∧zDQ w' ca L)∧Below w.heap.size w w' from by
  refine HCO.out.mono ?_
  rintro e w' ⟨⟨ca,c,he,k1,k2⟩,hb⟩
  rw[hL]
  exact⟨⟨ca,c,by rw[he,hv],k1,k2⟩,hb⟩)
 obtain⟨W,hW⟩:=exq (zAB M)
 rw[<- hW]at HPP HSPN hc
 have HCC:=hid (fun(X:World) (hX:Below w.heap.size w X)=>show X.cell? ⟨b_,off_,none⟩=some (.slice ra W rc)from(hX.cell (p:=⟨b_,off_,none⟩) hb).trans hc)
 have i0:(0:Int)<(n:Int):=by omega
 have HW10:=hid (show W<=10 by omega)
 clear hn hn2 H H2 hv hr0 ho hok hyl hmil hM h1 h6 hc1 hc10 hb hc hL hW HCO
 go_enter Tryz.func44,Tryz.ntmps44
 go_upto_region 2 with (go_at_call 37;refine HCO1.out.mono ?_;rintro e X ⟨⟨ca,cc,rfl,hl3,hp3⟩,hb1⟩;have HBX:=hid hb1;have HP3:=hid hp3;have HL3:=hid hl3;clear hb1 hp3 hl3;refine Stop.of ?_)
 refine Stop.go ?_
 have cc0:=HCC.out _ HBX.out
 go_wp2
 clear cc0 HCO1
 go_loopw [8,25] (fun v i wr=>∃k:Nat,k<=W∧i=.int .i64 k∧wr.ownsRow X.heap.size 3 1 v (zDH L k).length ((zDH L k).map (Value.int .i64))∧Below X.heap.size X wr) (fun _ i _=>W-(intOf i).toNat)
 case atStart=>exact⟨0,Nat.zero_le _,rfl,World.ownsRow_nil _ _ _ _,Below.refl _ _⟩
 case round=>
  obtain⟨k,hk,rfl,hown,hbk⟩:=hrel
  by_cases hlt:k<W
  ·have hk9:k<=10:=by have:=HW10.out;omega
   have i1:(k:Int)<(W:Int):=by omega
   have HBK:=hid hbk
   have HO:=hid hown
   have HYES:=hid (fun h=>fixTo_yes (L:=L) (k:=k) h)
   have HNOT:=hid (fun h=>fixTo_no (L:=L) (k:=k) h)
   have HS1:=hid (fun(Z:World) (hZ:Below X.heap.size X Z)=>HSPN.out Z ca cc k hlt HL3.out (by
    have hp:=HP3.out
    exact zDQ.below hp hZ))
   obtain⟨va,vc,hve⟩:=zAD hown
   subst hve
   obtain⟨⟨⟨l1,l2⟩,h1,h2⟩,hsp⟩:∃q,q=zCL L k:=⟨_,rfl⟩
   rw[<- hsp]at HYES HNOT HS1
   simp only[]at HYES HNOT HS1
   clear hown hbk hsp
   go_upto_region 9 with (go_at_call 102;refine(HS1.out _ HBK.out).mono ?_;rintro e w3 ⟨rfl,hb3⟩;have HB3:=hid (zAA HBK.out hb3);have HB33:=hid hb3;clear hb3;refine Stop.of ?_)
   refine Stop.go ?_
   go_upto_region 9 with fail
   obtain⟨g,hg⟩:=exq (w3.heap.size)
   obtain⟨w4,hw4⟩:=exq ((w3.alloc (.cells #[.int .i64 l1,.int .i64 l2] 29)).alloc (.cells #[.int .i64 h1,.int .i64 h2] 29))
   rw[<- hg,<- hw4]
   have r1:RatI w4 g (l1,l2):=by
    rw[hw4,hg]
    exact(RatI.made w3 (l1,l2)).keep (Below.heap_alloc _ _ _ (by simp))
   have r2:RatI w4 (g+1) (h1,h2):=by
    have h:=RatI.made (w3.alloc (.cells #[.int .i64 l1,.int .i64 l2] 29)) (h1,h2)
    rw[World.size_alloc]at h
    rw[hw4,hg];exact h
   have hb34:Below w3.heap.size w3 w4:=by rw[hw4];exact((Below.refl _ _).alloc (Nat.le_refl _) _).alloc (by simp) _
   have HB4:=hid (zAA HB3.out hb34)
   have HO4:=hid (zBH HO.out (zAA HB33.out hb34))
   obtain⟨a0,a1,_⟩:=r1.cells
   obtain⟨b0,b1,_⟩:=r2.cells
   simp only[]at a0 a1 b0 b1
   clear hg hw4 hb34 r1 r2
   by_cases c1:l1=h1
   ·by_cases c2:l2=h2
    ·subst c1
     subst c2
     have HF:=hid (HYES.out rfl)
     have hle:=fixTo_len L k
     have M1:=hid (show(zDH L k).length+1<=maxLen by unfold maxLen;omega)
     have M2:=hid (show((zDH L k).length+1)*8<=140737488355328 by omega)
     have M3:=hid (Nat.le_trans HB4.out.size (zBS w4 (.cells #[.int .i64 (k:Int)] 3)))
     clear hle
     go_wp2_with (at_builtin;refine zAK _ rfl (.tmp 37) (.tmp 39) 24 rfl X.heap.size 3 (.int .i64 0) 1 8 Tryz.underlying24 zDN rfl Nat.one_pos (.slice va (zDH L k).length vc) (zDH L k).length _ rfl (HO4.out.alloc _) (some ⟨w4.heap.size,0,none⟩) 1 1 [.int .i64 (k:Int)] rfl rfl zBP (zBL w4 _ _) (zDT _) M1.out M2.out M3.out ?_;intro a9 c9 w9 own9 g9;refine Stop.of ?_)
     refine Stop.go ?_
     have HB9:=hid (show Below X.heap.size X w9 from(HB4.out.alloc HB4.out.size _).grown g9 M3.out (fun q hq=>(HO4.out.lt q hq).1))
     have HO9:=hid own9
     clear a0 a1 b0 b1 own9 g9
     go_wp2
     refine⟨⟨k+1,by omega,by go_num,?_,HB9.out⟩,by simp[intOf];omega⟩
     rw[HF.out,List.length_append,List.map_append]
     exact HO9.out
    ·have HF:=hid (HNOT.out (fun h=>c2 (by cases h;rfl)))
     have c2':(l2==h2)=false:=by simpa using c2
     subst c1
     go_wp2
     refine⟨⟨k+1,by omega,by go_num,?_,HB4.out⟩,by simp[intOf];omega⟩
     rw[HF.out];exact HO4.out
   ·have HF:=hid (HNOT.out (fun h=>c1 (by cases h;rfl)))
    have c1':(l1==h1)=false:=by simpa using c1
    go_wp2
    refine⟨⟨k+1,by omega,by go_num,?_,HB4.out⟩,by simp[intOf];omega⟩
    rw[HF.out];exact HO4.out
  ·obtain rfl:k=W:=by omega
   obtain⟨va,vc,rfl,hia,hlm⟩:=zCO hown rfl
   have HIA:=hid hia
   have HLM:=hid hlm
   have HBK:=hid (zAA HBX.out hbk)
   have i1:¬((k:Int)<(k:Int)):=by omega
   clear hown hbk hia hlm
   go_wp2
   go_ret2
   exact⟨HPP.out va vc _ _ rfl HIA.out HLM.out,HBK.out⟩
theorem r5fixed_c(w:World)(a a2:Option Addr)(n cap n2 cap2:Nat)(M:Mask)(Y:List Int)(hn:M.length=n)(hn2:Y.length=n2)(hm:n<=maxLen)(hm2:n2<=maxLen)(H:zAN w a M)(H2:zAI w a2 Y):
 Calls Tryz.prog 45 #[.slice a n cap,.slice a2 n2 cap2] w fun e w'=>FixP M Y e w'∧Below w.heap.size w w':=by
 have HCO:=hid (zLY w a a2 n cap n2 cap2 M Y hn hn2 hm hm2 H H2)
 by_cases hv:(valE M Y).2=0
 rotate_left
 ·have HE:=hid (show zGM M Y=[]by unfold zGM;rw[if_pos hv])
  have hnf:((valE M Y).2 !=0)=true:=by simpa using hv
  obtain⟨F,hF⟩:=exq ((valE M Y).2)
  obtain⟨K,hK⟩:=exq ((zAU M Y).length)
  have HPP:=hid (show ∀e w',e=.returned (.tuple #[.slice none 0 0,.int .i64 F])->FixP M Y e w' from fun e w' he=>⟨none,0,by rw[HE.out,<- hF];exact he,by rw[HE.out];exact fun j hj=>by simp at hj,by rw[HE.out];decide⟩)
  have HCO0:=hid (show Calls Tryz.prog 38 #[.slice a n cap,.slice a2 n2 cap2] w fun e w'=>(∃ca c,e=.returned (.tuple #[.slice ca K c,.int .i64 F]))∧Below w.heap.size w w' from by
   refine HCO.out.mono ?_
   rintro e w' ⟨⟨ca,c,he,_⟩,hb⟩
   exact⟨⟨ca,c,by rw[he,hK,hF]⟩,hb⟩)
  rw[<- hF]at hnf
  clear hn hn2 H H2 hv hF hK HCO
  go_enter Tryz.func45,Tryz.ntmps45
  go_upto_region 2 with (go_at_call 38;refine HCO0.out.mono ?_;rintro e w1 ⟨⟨ca,cc,rfl⟩,hb1⟩;have HB1:=hid hb1;clear hb1;refine Stop.of ?_)
  refine Stop.go ?_
  go_wp2
  go_ret2
  exact⟨HPP.out _ _ rfl,HB1.out⟩
 obtain⟨hr0,ho⟩:=zLP hv
 obtain⟨hok,hyl,hmil⟩:=zHZ hr0
 obtain⟨hM,h1,h6,hc1,hc10⟩:=zCT hok
 obtain⟨b_,off_,ra,rc,rfl,hb,hc⟩:=zCS H (by omega)
 obtain⟨L,hL⟩:=exq (zAU M Y)
 have HPP:=hid (show ∀a c e w',e=.returned (.tuple #[.slice a (zDH L (zAB M)).length c,.int .i64 0])->zAI w' a (zDH L (zAB M))->(zDH L (zAB M)).length<=maxLen->FixP M Y e w' from fun a c e w' he hi hl=>by
  have e1:zGM M Y=zDH L (zAB M):=by unfold zGM zDH;rw[if_neg (fun h=>h hv),hL]
  exact⟨a,c,by rw[e1,hv];exact he,by rw[e1];exact hi,by rw[e1];exact hl⟩)
 have HSPN:=hid (fun(Z:World) (ca:Option Addr) (c P:Nat) (hP:P<zAB M) (k1:L.length<=11264) (k2:zDQ Z ca L)=>show Calls Tryz.prog 103 #[.slice ca L.length c,.int .i64 P] Z fun e w'=>e=.returned (.tuple #[.agg #[.int .i64 (zCL L P).1.1,.int .i64 (zCL L P).1.2],.agg #[.int .i64 (zCL L P).2.1,.int .i64 (zCL L P).2.2]])∧Below Z.heap.size Z w' from by
  obtain⟨g1,g2,g3⟩:=zJF hv hP
  rw[<- hL]at g1 g2 g3
  exact r5ends_c Z ca L.length c P L rfl g1 k1 (by omega) k2 g2 g3)
 have HCO1:=hid (show Calls Tryz.prog 38 #[.slice (some ⟨b_,off_,none⟩) n cap,.slice a2 n2 cap2] w fun e w'=>(∃ca c,e=.returned (.tuple #[.slice ca L.length c,.int .i64 0])∧L.length<=11264∧zDQ w' ca L)∧Below w.heap.size w w' from by
  refine HCO.out.mono ?_
  rintro e w' ⟨⟨ca,c,he,k1,k2⟩,hb⟩
  rw[hL]
  exact⟨⟨ca,c,by rw[he,hv],k1,k2⟩,hb⟩)
 obtain⟨W,hW⟩:=exq (zAB M)
 rw[<- hW]at HPP HSPN hc
 have HCC:=hid (fun(X:World) (hX:Below w.heap.size w X)=>show X.cell? ⟨b_,off_,none⟩=some (.slice ra W rc)from(hX.cell (p:=⟨b_,off_,none⟩) hb).trans hc)
 have i0:(0:Int)<(n:Int):=by omega
 have HW10:=hid (show W<=10 by omega)
 clear hn hn2 H H2 hv hr0 ho hok hyl hmil hM h1 h6 hc1 hc10 hb hc hL hW HCO
 go_enter Tryz.func45,Tryz.ntmps45
 go_upto_region 2 with (go_at_call 38;refine HCO1.out.mono ?_;rintro e X ⟨⟨ca,cc,rfl,hl3,hp3⟩,hb1⟩;have HBX:=hid hb1;have HP3:=hid hp3;have HL3:=hid hl3;clear hb1 hp3 hl3;refine Stop.of ?_)
 refine Stop.go ?_
 have cc0:=HCC.out _ HBX.out
 go_wp2
 clear cc0 HCO1
 go_loopw [8,25] (fun v i wr=>∃k:Nat,k<=W∧i=.int .i64 k∧wr.ownsRow X.heap.size 3 1 v (zDH L k).length ((zDH L k).map (Value.int .i64))∧Below X.heap.size X wr) (fun _ i _=>W-(intOf i).toNat)
 case atStart=>exact⟨0,Nat.zero_le _,rfl,World.ownsRow_nil _ _ _ _,Below.refl _ _⟩
 case round=>
  obtain⟨k,hk,rfl,hown,hbk⟩:=hrel
  by_cases hlt:k<W
  ·have hk9:k<=10:=by have:=HW10.out;omega
   have i1:(k:Int)<(W:Int):=by omega
   have HBK:=hid hbk
   have HO:=hid hown
   have HYES:=hid (fun h=>fixTo_yes (L:=L) (k:=k) h)
   have HNOT:=hid (fun h=>fixTo_no (L:=L) (k:=k) h)
   have HS1:=hid (fun(Z:World) (hZ:Below X.heap.size X Z)=>HSPN.out Z ca cc k hlt HL3.out (by
    have hp:=HP3.out
    exact zDQ.below hp hZ))
   obtain⟨va,vc,hve⟩:=zAD hown
   subst hve
   obtain⟨⟨⟨l1,l2⟩,h1,h2⟩,hsp⟩:∃q,q=zCL L k:=⟨_,rfl⟩
   rw[<- hsp]at HYES HNOT HS1
   simp only[]at HYES HNOT HS1
   clear hown hbk hsp
   go_upto_region 9 with (go_at_call 103;refine(HS1.out _ HBK.out).mono ?_;rintro e w3 ⟨rfl,hb3⟩;have HB3:=hid (zAA HBK.out hb3);have HB33:=hid hb3;clear hb3;refine Stop.of ?_)
   refine Stop.go ?_
   go_upto_region 9 with fail
   obtain⟨g,hg⟩:=exq (w3.heap.size)
   obtain⟨w4,hw4⟩:=exq ((w3.alloc (.cells #[.int .i64 l1,.int .i64 l2] 29)).alloc (.cells #[.int .i64 h1,.int .i64 h2] 29))
   rw[<- hg,<- hw4]
   have r1:RatI w4 g (l1,l2):=by
    rw[hw4,hg]
    exact(RatI.made w3 (l1,l2)).keep (Below.heap_alloc _ _ _ (by simp))
   have r2:RatI w4 (g+1) (h1,h2):=by
    have h:=RatI.made (w3.alloc (.cells #[.int .i64 l1,.int .i64 l2] 29)) (h1,h2)
    rw[World.size_alloc]at h
    rw[hw4,hg];exact h
   have hb34:Below w3.heap.size w3 w4:=by rw[hw4];exact((Below.refl _ _).alloc (Nat.le_refl _) _).alloc (by simp) _
   have HB4:=hid (zAA HB3.out hb34)
   have HO4:=hid (zBH HO.out (zAA HB33.out hb34))
   obtain⟨a0,a1,_⟩:=r1.cells
   obtain⟨b0,b1,_⟩:=r2.cells
   simp only[]at a0 a1 b0 b1
   clear hg hw4 hb34 r1 r2
   by_cases c1:l1=h1
   ·by_cases c2:l2=h2
    ·subst c1
     subst c2
     have HF:=hid (HYES.out rfl)
     have hle:=fixTo_len L k
     have M1:=hid (show(zDH L k).length+1<=maxLen by unfold maxLen;omega)
     have M2:=hid (show((zDH L k).length+1)*8<=140737488355328 by omega)
     have M3:=hid (Nat.le_trans HB4.out.size (zBS w4 (.cells #[.int .i64 (k:Int)] 3)))
     clear hle
     go_wp2_with (at_builtin;refine zAK _ rfl (.tmp 37) (.tmp 39) 24 rfl X.heap.size 3 (.int .i64 0) 1 8 Tryz.underlying24 zDN rfl Nat.one_pos (.slice va (zDH L k).length vc) (zDH L k).length _ rfl (HO4.out.alloc _) (some ⟨w4.heap.size,0,none⟩) 1 1 [.int .i64 (k:Int)] rfl rfl zBP (zBL w4 _ _) (zDT _) M1.out M2.out M3.out ?_;intro a9 c9 w9 own9 g9;refine Stop.of ?_)
     refine Stop.go ?_
     have HB9:=hid (show Below X.heap.size X w9 from(HB4.out.alloc HB4.out.size _).grown g9 M3.out (fun q hq=>(HO4.out.lt q hq).1))
     have HO9:=hid own9
     clear a0 a1 b0 b1 own9 g9
     go_wp2
     refine⟨⟨k+1,by omega,by go_num,?_,HB9.out⟩,by simp[intOf];omega⟩
     rw[HF.out,List.length_append,List.map_append]
     exact HO9.out
    ·have HF:=hid (HNOT.out (fun h=>c2 (by cases h;rfl)))
     have c2':(l2==h2)=false:=by simpa using c2
     subst c1
     go_wp2
     refine⟨⟨k+1,by omega,by go_num,?_,HB4.out⟩,by simp[intOf];omega⟩
     rw[HF.out];exact HO4.out
   ·have HF:=hid (HNOT.out (fun h=>c1 (by cases h;rfl)))
    have c1':(l1==h1)=false:=by simpa using c1
    go_wp2
    refine⟨⟨k+1,by omega,by go_num,?_,HB4.out⟩,by simp[intOf];omega⟩
    rw[HF.out];exact HO4.out
  ·obtain rfl:k=W:=by omega
   obtain⟨va,vc,rfl,hia,hlm⟩:=zCO hown rfl
   have HIA:=hid hia
   have HLM:=hid hlm
   have HBK:=hid (zAA HBX.out hbk)
   have i1:¬((k:Int)<(k:Int)):=by omega
   clear hown hbk hia hlm
   go_wp2
   go_ret2
   exact⟨HPP.out va vc _ _ rfl HIA.out HLM.out,HBK.out⟩
end
section
open Go.RowKit
theorem two5_c(w:World):Calls Tryz.prog 72 #[] w fun e w'=>Below w.heap.size w w'∧∃a cap,e=.returned (.slice a 2 cap)∧zAN w' a twoM:=by
 go_enter Tryz.func72,Tryz.ntmps72
 go_wp2
 go_ret
 exact⟨(((Below.refl _ _).alloc (Nat.le_refl _) _).alloc (by simp) _).alloc (by simp;omega) _,_,_,rfl,two_rows w⟩
theorem zHH(w:World)(n:Int):Calls Tryz.prog 51 #[.int .i64 n] w fun e w'=>e=.returned (.agg #[.int .i64 n,.int .i64 1])∧Below w.heap.size w w':=by
 obtain⟨rb,hrb⟩:=exq (w.heap.size)
 obtain⟨wz,hwz⟩:=exq (w.alloc (.cells #[.int .i64 0,.int .i64 0] 29))
 have hbz:Below w.heap.size w wz:=by rw[hwz];exact(Below.refl _ _).alloc (Nat.le_refl _) _
 have hrz:RatI wz rb (0,0):=by rw[hwz,hrb];exact RatI.made w (0,0)
 obtain⟨r0,r1,r2,r3,r4⟩:=hrz.cells
 have X1:=hid (RatI.set (p:=(n,1)) hrz)
 have X2:=hid ((zBT wz rb (.int .i64 n) (.int .i64 1)).below hbz hbz.size (fun k hk=>by show k≠rb;omega))
 have HWZ:=hid hwz
 clear hwz hrz hbz
 go_enter Tryz.func51,Tryz.ntmps51
 go_upto_region 1 with fail
 rw[<- hrb,<- HWZ.out]
 clear hrb
 go_wp2
 clear r0 r1 r2 r3 r4
 generalize (wz.setCell ⟨rb,0,none⟩ (.int .i64 n)).setCell ⟨rb,1,none⟩ (.int .i64 1)=WF at X1 X2⊢
 obtain⟨t0,t1,t2,t3,t4⟩:=X1.out.cells
 refine bodyPost_ret (v:=.agg #[.int .i64 n,.int .i64 1]) ?_ rfl ⟨rfl,X2.out⟩
 simp[results,Tryz.results51,go_sem,t0,t1,t2,t3,t4]
theorem aw5_val:valE twoM [1,-1]=((2,1),0):=by decide+kernel
theorem aw5_prov:zDW twoM [1,1] [(0,1),(1,1),(0,1)] [(1,1),(0,1)]=true:=by decide+kernel
theorem ints2(w:World)(x y:Int)(T:TypeId):zAI (w.alloc (.cells #[.int .i64 x,.int .i64 y] T)) (some ⟨w.heap.size,0,none⟩) [x,y]:=fun j hj=>⟨w.heap.size,0,rfl,by simp,by
 rw[World.cell?_alloc_at _ _ _ _ rfl]
 match j,hj with
 |0,_=>rfl
 |1,_=>rfl⟩
theorem rats3(w:World)(a b c d e f:Int)(T:TypeId):zCJ (w.alloc (.cells #[.int .i64 a,.int .i64 b,.int .i64 c,.int .i64 d,.int .i64 e,.int .i64 f] T)) (some ⟨w.heap.size,0,none⟩) [(a,b),(c,d),(e,f)]:=fun j hj=>⟨w.heap.size,0,rfl,by simp,by
 rw[World.cell?_alloc_at _ _ _ _ rfl]
 match j,hj with
 |0,_=>rfl
 |1,_=>rfl
 |2,_=>rfl,by
 rw[World.cell?_alloc_at _ _ _ _ rfl]
 match j,hj with
 |0,_=>rfl
 |1,_=>rfl
 |2,_=>rfl⟩
theorem rats2(w:World)(a b c d:Int)(T:TypeId):zCJ (w.alloc (.cells #[.int .i64 a,.int .i64 b,.int .i64 c,.int .i64 d] T)) (some ⟨w.heap.size,0,none⟩) [(a,b),(c,d)]:=fun j hj=>⟨w.heap.size,0,rfl,by simp,by
 rw[World.cell?_alloc_at _ _ _ _ rfl]
 match j,hj with
 |0,_=>rfl
 |1,_=>rfl,by
 rw[World.cell?_alloc_at _ _ _ _ rfl]
 match j,hj with
 |0,_=>rfl
 |1,_=>rfl⟩
theorem awake5_c(w:World):Calls Tryz.prog 18 #[] w fun e w'=>e=.returned (.bool true)∧Below w.heap.size w w':=by
 go_enter Tryz.func18,Tryz.ntmps18
 go_upto_region 2 with (go_at_call 72;refine(two5_c _).mono ?_;rintro e w1 ⟨hb1,a,cap,rfl,hR⟩;refine Stop.of ?_)
 refine Stop.go ?_
 have hbA:Below w1.heap.size w1 (w1.alloc (.cells #[.int .i64 1,.int .i64 (-1)] 3)):=(Below.refl _ _).alloc (Nat.le_refl _) _
 have HV:=hid (dvalue_c (w1.alloc (.cells #[.int .i64 1,.int .i64 (-1)] 3)) a (some ⟨w1.heap.size,0,none⟩) 2 cap 2 2 twoM [1,-1] rfl rfl (by decide) (by decide) (hR.below hbA) (ints2 w1 1 (-1) _))
 rw[aw5_val]at HV
 have HB1:=hid (zAA hb1 hbA)
 clear hb1 hbA hR
 go_upto_region 2 with (go_at_call 19;refine HV.out.mono ?_;rintro e w2 ⟨rfl,hb2⟩;refine Stop.of ?_)
 refine Stop.go ?_
 have HB2:=hid (zAA HB1.out hb2)
 clear hb2 HB1 HV
 have hr:ratV (2,1)=.agg #[.int .i64 2,.int .i64 1]:=rfl
 rw[hr]
 clear hr
 go_upto_region 2 with fail
 go_upto_region 3 with (go_at_call 51;refine(zHH _ _).mono ?_;rintro e w3 ⟨rfl,hb3⟩;have HB3:=hid hb3;clear hb3;refine Stop.of ?_)
 refine Stop.go ?_
 go_upto_region 3 with (go_at_call 51;refine(zHH _ _).mono ?_;rintro e w4 ⟨rfl,hb4⟩;have HB4:=hid hb4;clear hb4;refine Stop.of ?_)
 refine Stop.go ?_
 go_upto_region 3 with (go_at_call 51;refine(zHH _ _).mono ?_;rintro e w5 ⟨rfl,hb5⟩;have HB5:=hid hb5;clear hb5;refine Stop.of ?_)
 refine Stop.go ?_
 go_upto_region 3 with (go_at_call 51;refine(zHH _ _).mono ?_;rintro e w6 ⟨rfl,hb6⟩;have HB6:=hid hb6;clear hb6;refine Stop.of ?_)
 refine Stop.go ?_
 go_upto_region 3 with (go_at_call 51;refine(zHH _ _).mono ?_;rintro e w7 ⟨rfl,hb7⟩;have HB7:=hid hb7;clear hb7;refine Stop.of ?_)
 refine Stop.go ?_
 go_upto_region 3 with fail
 have B25:Below (w2.alloc (.cells #[.int .i64 2,.int .i64 1] 29)).heap.size (w2.alloc (.cells #[.int .i64 2,.int .i64 1] 29)) w5:=zAA HB3.out (zAA HB4.out HB5.out)
 have B57:Below (w5.alloc (.cells #[.int .i64 0,.int .i64 1,.int .i64 1,.int .i64 1,.int .i64 0,.int .i64 1] 29)).heap.size (w5.alloc (.cells #[.int .i64 0,.int .i64 1,.int .i64 1,.int .i64 1,.int .i64 0,.int .i64 1] 29)) w7:=zAA HB6.out HB7.out
 have R2:=RatI.made w2 (2,1)
 have R5:RatI w5 w2.heap.size (2,1):=R2.keep (B25.block _ R2.lt)
 have bC:Below w5.heap.size w5 (w5.alloc (.cells #[.int .i64 0,.int .i64 1,.int .i64 1,.int .i64 1,.int .i64 0,.int .i64 1] 29)):=(Below.refl _ _).alloc (Nat.le_refl _) _
 have b57:Below w5.heap.size w5 w7:=zAA bC B57
 have R7:RatI w7 w2.heap.size (2,1):=R5.keep (b57.block _ R5.lt)
 have X7:zCJ w7 (some ⟨w5.heap.size,0,none⟩) [(0,1),(1,1),(0,1)]:=(rats3 w5 0 1 1 1 0 1 29).below B57
 have bA:Below w2.heap.size w2 (w2.alloc (.cells #[.int .i64 2,.int .i64 1] 29)):=(Below.refl _ _).alloc (Nat.le_refl _) _
 have bw7:Below w.heap.size w w7:=zAA HB2.out (zAA bA (zAA B25 b57))
 obtain⟨b1,hb1⟩:=exq (w2.heap.size)
 obtain⟨ap,hap⟩:=exq (w5.heap.size)
 obtain⟨ax,hax⟩:=exq (w7.heap.size)
 obtain⟨b3,hb3⟩:=exq (w7.heap.size+1)
 obtain⟨wB,hwB⟩:=exq ((w7.alloc (.cells #[.int .i64 1,.int .i64 1,.int .i64 0,.int .i64 1] 29)).alloc (.cells #[.slice (some ⟨w5.heap.size,0,none⟩) 3 3,.slice (some ⟨w7.heap.size,0,none⟩) 2 2] 78))
 have bD:Below w7.heap.size w7 (w7.alloc (.cells #[.int .i64 1,.int .i64 1,.int .i64 0,.int .i64 1] 29)):=(Below.refl _ _).alloc (Nat.le_refl _) _
 have bB:Below w7.heap.size w7 wB:=by rw[hwB];exact bD.alloc bD.size _
 have bDB:Below (w7.alloc (.cells #[.int .i64 1,.int .i64 1,.int .i64 0,.int .i64 1] 29)).heap.size (w7.alloc (.cells #[.int .i64 1,.int .i64 1,.int .i64 0,.int .i64 1] 29)) wB:=by rw[hwB];exact(Below.refl _ _).alloc (Nat.le_refl _) _
 have HRB:=hid (R7.keep (bB.block _ R7.lt))
 have HPB:=hid (X7.below bB)
 have HXB:=hid ((rats2 w7 1 1 0 1 29).below bDB)
 have HLB:=hid (show wB.heap[w7.heap.size+1]? =some (.cells #[.slice (some ⟨w5.heap.size,0,none⟩) 3 3,.slice (some ⟨w7.heap.size,0,none⟩) 2 2] 78 (0,0))by
  have h:=World.alloc_heap_new (w7.alloc (.cells #[.int .i64 1,.int .i64 1,.int .i64 0,.int .i64 1] 29)) (.cells #[.slice (some ⟨w5.heap.size,0,none⟩) 3 3,.slice (some ⟨w7.heap.size,0,none⟩) 2 2] 78)
  rw[World.size_alloc]at h
  rw[hwB];exact h)
 have HBW:=hid (zAA bw7 bB)
 rw[<- hwB]
 rw[<- hb1]at HRB⊢
 rw[<- hb3]at HLB⊢
 rw[<- hap]at HPB HLB⊢
 rw[<- hax]at HXB HLB⊢
 clear B25 B57 R2 R5 bC b57 R7 X7 bA bw7 hb1 hap hax hb3 hwB bD bB bDB HB2 HB3 HB4 HB5 HB6 HB7
 have HS:=hid (fun(X:World) (hX:Below wB.heap.size wB X)=>show X.cell? ⟨b1,0,none⟩=some (.int .i64 2)∧X.cell? ⟨b1,1,none⟩=some (.int .i64 1)∧X.cell? ⟨b3,0,none⟩=some (.slice (some ⟨ap,0,none⟩) 3 3)∧X.cell? ⟨b3,1,none⟩=some (.slice (some ⟨ax,0,none⟩) 2 2)from by
  obtain⟨c0,c1,_⟩:=(HRB.out.keep (hX.block _ HRB.out.lt)).cells
  have h:=(hX.block _ (Array.getElem?_eq_some_iff.1 HLB.out).1).trans HLB.out
  exact⟨c0,c1,by simp[World.cell?,h],by simp[World.cell?,h]⟩)
 have HPV:=hid (fun(X:World) (a a3:Option Addr) (cap cap3:Nat) (hX:Below wB.heap.size wB X) (hR:zAN X a twoM) (hY:zAI X a3 [1,1])=>dproves_c X a a3 (some ⟨ap,0,none⟩) (some ⟨ax,0,none⟩) 2 cap 2 cap3 3 3 2 2 twoM [1,1] [(0,1),(1,1),(0,1)] [(1,1),(0,1)] rfl rfl rfl rfl (by decide) (by decide) (by decide) (by decide) hR hY (HPB.out.below hX) (HXB.out.below hX))
 rw[aw5_prov]at HPV
 refine zAF (fun j X=>wAll j=true->X.cell? ⟨b1,0,none⟩=some (.int .i64 2)∧X.cell? ⟨b1,1,none⟩=some (.int .i64 1)∧X.cell? ⟨b3,0,none⟩=some (.slice (some ⟨ap,0,none⟩) 3 3)∧X.cell? ⟨b3,1,none⟩=some (.slice (some ⟨ax,0,none⟩) 2 2)) (by kernel_rfl) ?_
 have hbd:Below wB.heap.size wB wB.drew:=(Below.refl _ _).drew
 generalize wB.drew=wd at hbd⊢
 have HBD:=hid hbd
 clear hbd
 refine AnyT.nx (i:=0) rfl ?_
 go_wp2
 refine⟨fun _=>HS.out _ HBD.out,?_⟩
 refine AnyT.nx (i:=1) rfl ?_
 go_wp2
 refine⟨fun _=>HS.out _ HBD.out,?_⟩
 refine AnyT.nx (i:=2) rfl ?_
 go_wp2
 refine⟨fun _=>HS.out _ HBD.out,?_⟩
 refine AnyT.tD (i:=3) (v:=.agg #[.int .i64 2,.int .i64 1]) rfl rfl (by rintro w' ⟨q0,q1,q2,q3⟩;go_simp) (HS.out _ HBD.out) ?_;go_frame
 refine AnyT.nx (i:=4) rfl ?_
 go_wp2_with (go_at_call 51;refine(zHH _ _).mono ?_;rintro e w3 ⟨rfl,hb3⟩;have HB3:=hid (zAA HBD.out hb3);clear hb3;refine Stop.of ?_)
 refine Stop.go ?_
 go_wp2
 refine⟨fun _=>HS.out _ HB3.out,?_⟩
 refine AnyT.nx (i:=5) rfl ?_
 go_wp2
 refine⟨fun _=>HS.out _ HB3.out,?_⟩
 refine AnyT.nx (i:=6) rfl ?_
 go_wp2
 refine⟨fun _=>HS.out _ HB3.out,?_⟩
 refine AnyT.nx (i:=7) rfl ?_
 go_wp2
 refine⟨fun _=>HS.out _ HB3.out,?_⟩
 refine AnyT.tD (i:=10) (v:=.agg #[.slice (some ⟨ap,0,none⟩) 3 3,.slice (some ⟨ax,0,none⟩) 2 2]) rfl rfl (by rintro w' ⟨q0,q1,q2,q3⟩;go_simp) (HS.out _ HB3.out) ?_;go_frame
 refine AnyT.next2 (i:=8) (j:=9) (by kernel_rfl) (wpOp_of_list rfl ?_) (wpOp_of_list rfl ?_)
 ·go_wp2_with (go_at_call 72;refine(two5_c _).mono ?_;rintro e w4 ⟨hb4,a4,cap4,rfl,hR4⟩;have HB4:=hid (zAA HB3.out hb4);have HR4:=hid hR4;clear hb4 hR4;refine Stop.of ?_)
  refine Stop.go ?_
  go_wp2
  refine⟨fun _=>HS.out _ HB4.out,?_⟩
  refine AnyT.nx (i:=9) rfl ?_
  go_wp2
  have hb5:Below w4.heap.size w4 (w4.alloc (.cells #[.int .i64 1,.int .i64 1] 3)):=(Below.refl _ _).alloc (Nat.le_refl _) _
  have HB5:=hid (zAA HB4.out hb5)
  have HPV2:=hid (HPV.out _ a4 (some ⟨w4.heap.size,0,none⟩) cap4 2 HB5.out (HR4.out.below hb5) (ints2 w4 1 1 3))
  clear hb5
  refine⟨fun _=>HS.out _ HB5.out,?_⟩
  refine AnyT.nx (i:=11) rfl ?_
  go_wp2_with (go_at_call 61;refine HPV2.out.mono ?_;rintro e w8 ⟨rfl,hb8⟩;have HB8:=hid (zAA HB5.out hb8);clear hb8;refine Stop.of ?_)
  refine Stop.go ?_
  go_wp2
  refine⟨fun _=>HS.out _ HB8.out,?_⟩
  refine AnyT.nx (i:=12) rfl ?_
  go_wp2
  refine⟨fun _=>HS.out _ HB8.out,?_⟩
  refine AnyT.nx (i:=13) rfl ?_
  go_wp2
  refine⟨fun _=>HS.out _ HB8.out,?_⟩
  refine AnyT.done (by kernel_rfl) ?_ _
  go_wp2
  go_ret
  exact⟨rfl,zAA HBW.out HB8.out⟩
 ·go_wp2
  obtain⟨w4,hw4⟩:=exq (w3.alloc (.cells #[.int .i64 1,.int .i64 1] 3))
  have hb4:Below w3.heap.size w3 w4:=by rw[hw4];exact(Below.refl _ _).alloc (Nat.le_refl _) _
  have HY4:=hid (show zAI w4 (some ⟨w3.heap.size,0,none⟩) [1,1]by rw[hw4];exact ints2 w3 1 1 3)
  have HB4:=hid (zAA HB3.out hb4)
  rw[<- hw4]
  clear hb4 hw4
  refine⟨fun _=>HS.out _ HB4.out,?_⟩
  refine AnyT.nx (i:=8) rfl ?_
  go_wp2_with (go_at_call 72;refine(two5_c _).mono ?_;rintro e w5 ⟨hb5,a4,cap4,rfl,hR4⟩;have HB5:=hid (zAA HB4.out hb5);have HPV2:=hid (HPV.out _ a4 (some ⟨w3.heap.size,0,none⟩) cap4 2 HB5.out hR4 (HY4.out.below hb5));clear hb5 hR4;refine Stop.of ?_)
  refine Stop.go ?_
  go_wp2
  refine⟨fun _=>HS.out _ HB5.out,?_⟩
  refine AnyT.nx (i:=11) rfl ?_
  go_wp2_with (go_at_call 61;refine HPV2.out.mono ?_;rintro e w8 ⟨rfl,hb8⟩;have HB8:=hid (zAA HB5.out hb8);clear hb8;refine Stop.of ?_)
  refine Stop.go ?_
  go_wp2
  refine⟨fun _=>HS.out _ HB8.out,?_⟩
  refine AnyT.nx (i:=12) rfl ?_
  go_wp2
  refine⟨fun _=>HS.out _ HB8.out,?_⟩
  refine AnyT.nx (i:=13) rfl ?_
  go_wp2
  refine⟨fun _=>HS.out _ HB8.out,?_⟩
  refine AnyT.done (by kernel_rfl) ?_ _
  go_wp2
  go_ret
  exact⟨rfl,zAA HBW.out HB8.out⟩
end
section
open Go.RowKit
def AnyB(e:Ending):Prop:=∃b,e=.returned (.bool b)
theorem AnyB.of{e:Ending}(b:Bool)(h:e=.returned (.bool b)):AnyB e:=⟨b,h⟩
theorem long5_c(w:World)(a:Option Addr)(n cap:Nat)(L:List (List Int))(hn:L.length=n)(hm:n<=maxLen)(H:zAN w a L):
 Calls Tryz.prog 25 #[.slice a n cap] w fun e w'=>AnyB e∧w=w':=by
 have HN:=hid hn
 have HH:=hid H
 clear hn H
 unfold maxLen at hm
 go_enter Tryz.func25,Tryz.ntmps25
 go_wp2
 go_loop [7] (fun i=>∃k:Nat,k<=n∧i=.int .i64 k) (fun i=>n-(intOf i).toNat)
 case atStart=>exact⟨0,Nat.zero_le _,rfl⟩
 case round=>
  obtain⟨k,hk,rfl⟩:=hrel
  by_cases hlt:k<n
  ·have hkl:k<L.length:=by rw[HN.out];exact hlt
   obtain⟨b,off,ra,rn,rc,rfl,hbs,hq0,hrn,hrm,hri⟩:=HH.out k hkl
   clear hrn hri hkl hrm
   by_cases h1:100<rn
   ·have hi:(100:Int)<(rn:Int):=by omega
    go_wp2
    go_ret
    exact⟨AnyB.of _ rfl,rfl⟩
   ·have hi:¬(100:Int)<(rn:Int):=by omega
    go_wp2
    go_round
    case rel=>exact⟨k+1,by omega,by go_num⟩
    case measure=>simp[intOf];omega
  ·go_wp2
   go_ret
   exact⟨AnyB.of _ rfl,rfl⟩
end
section
open Go.RowKit
theorem dualRanges_c(w:World)(a:Option Addr)(n cap:Nat)(M:Mask)(hn:M.length=n)(hm:n<=maxLen)(H:zAN w a M)(_:∀y∈M,∀z∈y,zJL z)
 (a2:Option Addr)(n2 cap2:Nat)(Y:List Int)(hn2:Y.length=n2)(hm2:n2<=maxLen)(H2:zAI w a2 Y)(_:∀z∈Y,zJL z)
 (p:Int)(_:zJL p):
 Calls Tryz.prog 7 #[.slice a n cap,.slice a2 n2 cap2,.int .i64 p] w fun e w'=>e=.returned (.bool true)∧Below w.heap.size w w':=by
 have HAW:=hid (fun X=>awake5_c X)
 have HLI:=hid (light_c w a n cap M hn hm H)
 have HLO:=hid (fun(X:World) (hX:Below w.heap.size w X)=>long5_c (X.alloc (.cells #[.slice a2 n2 cap2] 24)) (some ⟨X.heap.size,0,none⟩) 1 1 [Y] rfl (by decide) (rows_one hn2 hm2 (H2.below hX)))
 have HD:=hid (fun(X:World) (hX:Below w.heap.size w X)=>drange_c X a a2 n cap n2 cap2 M Y hn hn2 hm hm2 (H.below hX) (H2.below hX) p)
 have HR:=hid (fun(X:World) (hX:Below w.heap.size w X)=>r5range_c X a a2 n cap n2 cap2 M Y hn hn2 hm hm2 (H.below hX) (H2.below hX) p)
 have HFD0:=hid (fun(X:World) (hX:Below w.heap.size w X)=>dfixed_c X a a2 n cap n2 cap2 M Y hn hn2 hm hm2 (H.below hX) (H2.below hX))
 have HFR0:=hid (fun(X:World) (hX:Below w.heap.size w X)=>r5fixed_c X a a2 n cap n2 cap2 M Y hn hn2 hm hm2 (H.below hX) (H2.below hX))
 obtain⟨R,hR⟩:=exq (zEE M Y p)
 obtain⟨FE,hFE⟩:=exq (zGM M Y)
 obtain⟨V,hV⟩:=exq ((valE M Y).2)
 rw[<- hR]at HD HR
 obtain⟨⟨l1,l2⟩,⟨h1,h2⟩,E⟩:=R
 simp only[ratV]at HD HR
 have HFD:=hid (fun(X:World) (hX:Below w.heap.size w X)=>show Calls Tryz.prog 44 #[.slice a n cap,.slice a2 n2 cap2] X fun e w'=>(∃b c,e=.returned (.tuple #[.slice b FE.length c,.int .i64 V])∧zAI w' b FE∧FE.length<=maxLen)∧Below X.heap.size X w' from by
  rw[hFE,hV];exact HFD0.out X hX)
 have HFR:=hid (fun(X:World) (hX:Below w.heap.size w X)=>show Calls Tryz.prog 45 #[.slice a n cap,.slice a2 n2 cap2] X fun e w'=>(∃b c,e=.returned (.tuple #[.slice b FE.length c,.int .i64 V])∧zAI w' b FE∧FE.length<=maxLen)∧Below X.heap.size X w' from by
  rw[hFE,hV];exact HFR0.out X hX)
 clear hn hn2 H H2 hR hFE hV HFD0 HFR0
 go_enter Tryz.func7,Tryz.ntmps7
 go_wp2_with (go_at_call 16;refine HLI.out.mono ?_;rintro e w1 ⟨⟨sb,rfl⟩,rfl⟩;refine Stop.of ?_)
 refine Stop.go ?_
 cases sb
 ·go_wp2_with (go_at_call 18;refine(HAW.out _).mono ?_;rintro e w2 ⟨rfl,hb2⟩)
  go_ret
  exact⟨rfl,hb2⟩
 go_wp2_with (go_at_call 25;refine(HLO.out _ (Below.refl _ _)).mono ?_;rintro e w1 ⟨⟨lb,rfl⟩,rfl⟩;refine Stop.of ?_)
 refine Stop.go ?_
 obtain⟨wa,hwa⟩:=exq (w.alloc (.cells #[.slice a2 n2 cap2] 24))
 have HBA:=hid (show Below w.heap.size w wa by rw[hwa];exact(Below.refl _ _).alloc (Nat.le_refl _) _)
 rw[<- hwa]
 clear hwa
 cases lb
 rotate_left
 ·go_wp2_with (go_at_call 18;refine(HAW.out _).mono ?_;rintro e w2 ⟨rfl,hb2⟩)
  go_ret
  exact⟨rfl,zAA HBA.out hb2⟩
 go_upto_region 4 with (go_at_call 42;refine(HD.out _ HBA.out).mono ?_;rintro e w2 ⟨rfl,hb2⟩;have HB2:=hid (zAA HBA.out hb2);clear hb2;refine Stop.of ?_)
 refine Stop.go ?_
 go_upto_region 4 with fail
 obtain⟨b,hb⟩:=exq (w2.heap.size)
 obtain⟨w3,hw3⟩:=exq ((w2.alloc (.cells #[.int .i64 l1,.int .i64 l2] 29)).alloc (.cells #[.int .i64 h1,.int .i64 h2] 29))
 rw[<- hb,<- hw3]
 have A1:=hid (show RatI w3 b (l1,l2)from by
  rw[hw3,hb]
  exact(RatI.made w2 (l1,l2)).keep (Below.heap_alloc _ _ _ (by simp)))
 have A2:=hid (show RatI w3 (b+1) (h1,h2)from by
  have h:=RatI.made (w2.alloc (.cells #[.int .i64 l1,.int .i64 l2] 29)) (h1,h2)
  rw[World.size_alloc]at h
  rw[hw3,hb];exact h)
 have HB3:=hid (show Below w.heap.size w w3 by rw[hw3];exact(HB2.out.alloc HB2.out.size _).alloc (by have:=HB2.out.size;simp;omega) _)
 clear hb hw3
 go_upto_region 5 with (go_at_call 43;refine(HR.out _ HB3.out).mono ?_;rintro e w4 ⟨rfl,hb4⟩;have HB4:=hid hb4;clear hb4;refine Stop.of ?_)
 refine Stop.go ?_
 go_upto_region 5 with fail
 obtain⟨c,hc⟩:=exq (w4.heap.size)
 obtain⟨w5,hw5⟩:=exq ((w4.alloc (.cells #[.int .i64 l1,.int .i64 l2] 29)).alloc (.cells #[.int .i64 h1,.int .i64 h2] 29))
 rw[<- hc,<- hw5]
 have C1:=hid (show RatI w5 c (l1,l2)from by
  rw[hw5,hc]
  exact(RatI.made w4 (l1,l2)).keep (Below.heap_alloc _ _ _ (by simp)))
 have C2:=hid (show RatI w5 (c+1) (h1,h2)from by
  have h:=RatI.made (w4.alloc (.cells #[.int .i64 l1,.int .i64 l2] 29)) (h1,h2)
  rw[World.size_alloc]at h
  rw[hw5,hc];exact h)
 have h35:Below w3.heap.size w3 w5:=by rw[hw5];exact(HB4.out.alloc HB4.out.size _).alloc (by have:=HB4.out.size;simp;omega) _
 have B1:=hid (A1.out.keep (h35.block _ A1.out.lt))
 have B2:=hid (A2.out.keep (h35.block _ A2.out.lt))
 have HB5:=hid (zAA HB3.out h35)
 clear hc hw5 h35
 go_upto_region 6 with (go_at_call 44;refine(HFD.out _ HB5.out).mono ?_;rintro e w6 ⟨⟨fa,fc,rfl,hfi,hfm⟩,hb6⟩;have HB6:=hid hb6;have FI:=hid hfi;have FM:=hid hfm;clear hb6 hfi hfm;refine Stop.of ?_)
 refine Stop.go ?_
 go_upto_region 7 with (go_at_call 45;refine(HFR.out _ (zAA HB5.out HB6.out)).mono ?_;rintro e w7 ⟨⟨ga,gc,rfl,hgi,hgm⟩,hb7⟩;have HB7:=hid hb7;have GI:=hid hgi;clear hb7 hgi hgm;refine Stop.of ?_)
 refine Stop.go ?_
 go_upto_region 7 with fail
 have hb57:=zAA HB6.out HB7.out
 have HSI:=hid (fun(Z:World) (hZ:Below w7.heap.size w7 Z)=>(sameInts_c Z fa ga FE.length fc FE.length gc FE FE rfl rfl FM.out FM.out ((FI.out.below HB7.out).below hZ) (GI.out.below hZ)).mono fun e w' ⟨h1,k,h2⟩=>show e=Ending.returned (.bool true)∧Below Z.heap.size Z w' from⟨by rw[h1];simp,by rw[h2];exact zAH (Below.refl _ _) _⟩)
 obtain⟨x0,x1,_⟩:=(B1.out.keep (hb57.block _ B1.out.lt)).cells
 obtain⟨x2,x3,_⟩:=(B2.out.keep (hb57.block _ B2.out.lt)).cells
 obtain⟨x4,x5,_⟩:=(C1.out.keep (hb57.block _ C1.out.lt)).cells
 obtain⟨x6,x7,_⟩:=(C2.out.keep (hb57.block _ C2.out.lt)).cells
 simp only[]at x0 x1 x2 x3 x4 x5 x6 x7
 have HBW:=hid (zAA HB5.out hb57)
 clear hb57
 go_wp2_with (first
  | (go_at_call 46;refine(HSI.out _ (Below.refl _ _)).mono ?_;rintro e w8 ⟨rfl,hb8⟩)
  | (go_at_call 18;refine(HAW.out _).mono ?_;rintro e w9 ⟨rfl,hb9⟩))
 go_ret
 exact⟨rfl,zAA HBW.out (zAA hb8 hb9)⟩
end
end Go.Proofs.YtlffndehhhpgjaaGreat
