/- Walks and plain laws for DualRangesRow, part 8. -/
import Derived.WalkSpells
import Derived.BigQuiet
import Derived.Shelf.Bits.Mul64
import Derived.Shelf.Spec.BitsCarry
import Derived.Test.YtlffndehhhpgjaaGreatPkDualRangesRow7
namespace Go.Proofs.YtlffndehhhpgjaaGreat
set_option linter.unusedVariables false
set_option linter.unusedSimpArgs false
set_option maxRecDepth 100000
set_option maxHeartbeats 4000000
section
open Go.RowKit
theorem zHO:(Tryz.prog.info? 73).map (fun i=>(i.zero,i.size,i.bytes))=some (some (.agg #[.slice none 0 0,.slice none 0 0]),2,48):=by kernel_rfl
def zKE(W:World)(base:Nat)(v:Value)(T:List FitT):Prop:=
 ∃xs,W.ownsRow base 73 2 v T.length xs∧∀j (hj:j<T.length),∃us ur,xs[j*2]? =some us∧xs[j*2+1]? =some ur∧zGL 3 W base (fun _=>True) us T[j].1∧zED W base ur T[j].2
theorem zKE.nil(W:World)(base:Nat):zKE W base (.slice none 0 0) []:=⟨[],World.ownsRow_nil _ _ _ _,fun j hj=>by simp at hj⟩
theorem zKE.below{W W':World}{base:Nat}{v:Value}{T:List FitT}(h:zKE W base v T)(hb:Below W.heap.size W W'):zKE W' base v T:=by
 obtain⟨xs,ho,he⟩:=h
 refine⟨xs,zBH ho hb,fun j hj=>?_⟩
 obtain⟨us,ur,h1,h2,h3,h4⟩:=he j hj
 exact⟨us,ur,h1,h2,h3.keep (Keep.of_below hb:Keep (fun _=>True) _ _) (fun _ _ _ _=>trivial),h4.below hb⟩
def zFB(w:World)(a:Option Addr)(T:List FitT):Prop:=
 ∀j (hj:j<T.length),∃b off pa pn pc va vn vc,a=some ⟨b,off,none⟩∧b<w.heap.size∧w.cell? ⟨b,off+j*2,none⟩=some (.slice pa pn pc)∧w.cell? ⟨b,off+j*2+1,none⟩=some (.slice va vn vc)∧
  T[j].1.length=pn∧pn<=maxLen∧zAI w pa T[j].1∧T[j].2.length=vn∧vn<=maxLen∧zCJ w va T[j].2
theorem zFB.below{w w':World}{a:Option Addr}{T:List FitT}(h:zFB w a T)(hb:Below w.heap.size w w'):zFB w' a T:=by
 intro j hj
 obtain⟨b,off,pa,pn,pc,va,vn,vc,e,hlt,h0,h1,h2,h3,h4,h5,h6,h7⟩:=h j hj
 exact⟨b,off,pa,pn,pc,va,vn,vc,e,Nat.lt_of_lt_of_le hlt hb.size,(hb.cell (p:=⟨b,_,none⟩) hlt).trans h0,(hb.cell (p:=⟨b,_,none⟩) hlt).trans h1,h2,h3,h4.below hb,h5,h6,h7.below hb⟩
theorem zKE.reads{W:World}{base:Nat}{v:Value}{T:List FitT}(h:zKE W base v T):∃a cap,v=.slice a T.length cap∧T.length<=maxLen∧zFB W a T:=by
 obtain⟨xs,ho,he⟩:=h
 rcases ho.2 with⟨rfl,h0⟩|⟨g,cap,cur,rfl,hbg,hgg,hnc,hcm,hsz,htk⟩
 ·exact⟨none,0,by rw[h0],by rw[h0];decide,fun j hj=>by omega⟩
 ·refine⟨_,cap,rfl,by omega,fun j hj=>?_⟩
  obtain⟨us,ur,h1,h2,h3,h4⟩:=he j hj
  have hc:∀i,i<T.length*2->W.cell? ⟨g,i,none⟩=xs[i]? :=fun i hi=>
   World.ownsRow.cellAt (w:=W) (base:=base) (e:=73) (size:=2) (g:=g) (n:=T.length) (cap:=cap) (xs:=xs) ⟨ho.1,.inr ⟨g,cap,cur,rfl,hbg,hgg,hnc,hcm,hsz,htk⟩⟩ i hi
  obtain⟨sa,sn,sc,rfl,_⟩:=id h3
  obtain⟨ra,rn,rc,rfl,_⟩:=id h4
  obtain⟨k1,k2,k3⟩:=h3.ints
  obtain⟨m1,m2,m3⟩:=h4.rats
  exact⟨g,0,sa,sn,sc,ra,rn,rc,rfl,(Array.getElem?_eq_some_iff.1 hgg).1,by rw[Nat.zero_add,hc _ (by omega)];exact h1,by rw[Nat.zero_add,hc _ (by omega)];exact h2,k1,k2,k3,m1,m2,m3⟩
theorem zKE.snoc{W w1 w2:World}{base:Nat}{v v' us ur:Value}{T:List FitT}{t:FitT}{xs:List Value}
 (ho:W.ownsRow base 73 2 v T.length xs)(he:∀j (hj:j<T.length),∃us ur,xs[j*2]? =some us∧xs[j*2+1]? =some ur∧zGL 3 W base (fun _=>True) us T[j].1∧zED W base ur T[j].2)
 (h1:zGL 3 W base (fun _=>True) us t.1)(h2:zED W base ur t.2)
 (hW1:Below W.heap.size W w1)(hg:w1.grownBy w2 v.ownBlock)(ho':w2.ownsRow base 73 2 v' (T.length+1) (xs++[us,ur])):zKE w2 base v' (T++[t]):=by
 have hlen:xs.length=T.length*2:=ho.1
 have hgb:∀(E:TypeId),E≠73->∀b,(b<base∨∃c f,W.heap[b]? =some (.cells c E f))->b<W.heap.size->w2.heap[b]? =W.heap[b]? :=by
  intro E hE b hty hb
  refine(hg.block b (Nat.lt_of_lt_of_le hb hW1.size) ?_).trans (hW1.block b hb)
  rcases ho.2 with⟨rfl,_⟩|⟨g,cap,cur,rfl,hbg,hgg,_⟩
  ·simp[Value.ownBlock]
  ·intro e
   obtain rfl:b=g:=by simpa[Value.ownBlock]using e
   rcases hty with h|⟨c,f,h⟩
   ·omega
   ·rw[h]at hgg;cases hgg;exact hE rfl
 have hel:∀u l,zGL 3 W base (fun _=>True) u l->zGL 3 w2 base (fun _=>True) u l:=by
  intro u l h
  refine h.keep (T:=fun b=>b<W.heap.size∧(b<base∨∃c f,W.heap[b]? =some (.cells c 3 f))) ⟨hg.os.trans hW1.os,hg.tape.trans hW1.tape,hg.output.trans hW1.output,Nat.le_trans hW1.size hg.size,fun k hk hT=>hgb 3 (by decide) k hT.2 hk⟩ fun b _ hb hty=>⟨hb,hty⟩
 have heq:∀u l,zED W base u l->zED w2 base u l:=by
  intro u l h
  refine h.keep (T:=fun b=>b<W.heap.size∧(b<base∨∃c f,W.heap[b]? =some (.cells c 29 f))) ⟨hg.os.trans hW1.os,hg.tape.trans hW1.tape,hg.output.trans hW1.output,Nat.le_trans hW1.size hg.size,fun k hk hT=>hgb 29 (by decide) k hT.2 hk⟩ fun b hb hty=>⟨hb,hty⟩
 refine⟨xs++[us,ur],by rw[List.length_append];exact ho',fun j hj=>?_⟩
 by_cases e:j<T.length
 ·obtain⟨us',ur',k1,k2,k3,k4⟩:=he j e
  refine⟨us',ur',by rw[List.getElem?_append_left (by omega)];exact k1,by rw[List.getElem?_append_left (by omega)];exact k2,?_,?_⟩
  ·rw[List.getElem_append_left e];exact hel _ _ k3
  ·rw[List.getElem_append_left e];exact heq _ _ k4
 ·have:j=T.length:=by simp at hj;omega
  subst this
  refine⟨us,ur,by rw[List.getElem?_append_right (by omega),hlen];simp,by rw[List.getElem?_append_right (by omega),hlen,show T.length*2+1-T.length*2=1 by omega];rfl,?_,?_⟩
  ·simp only[List.getElem_append_right (Nat.le_refl _),Nat.sub_self,List.getElem_cons_zero];exact hel _ _ h1
  ·simp only[List.getElem_append_right (Nat.le_refl _),Nat.sub_self,List.getElem_cons_zero];exact heq _ _ h2
def allF(M:Mask)(y:List Int):List FitT:=(allS (zAB M)).filterMap (fitF M y)
theorem zNG{α β:Type}(f:α->Option β)(l:List α){k:Nat}(hk:k<l.length):(l.take (k+1)).filterMap f=(l.take k).filterMap f++(f l[k]).toList:=by
 rw[List.take_succ_eq_append_getElem hk,List.filterMap_append]
 first
  |done
  | (congr 1;first|done| (cases h:f l[k]<;>simp[h]))
theorem r4All_c(w:World)(a a2:Option Addr)(n cap n2 cap2:Nat)(M:Mask)(y:List Int)(hn:M.length=n)(hn2:y.length=n2)(hm:n<=maxLen)(hm2:n2<=maxLen)(H:zAN w a M)(H2:zAI w a2 y)(hM:okM M=true):
 Calls Tryz.prog 157 #[.slice a n cap,.slice a2 n2 cap2] w fun e w'=>∃v base,e=.returned v∧w.heap.size<=base∧zKE w' base v (allF M y)∧Below w.heap.size w w':=by
 obtain⟨_,h1,h6,hc1,hc10⟩:=zCT hM
 obtain⟨b,off,ra,rc,rfl,hb,hc⟩:=zCS H (by omega)
 have i0:(0:Int)<(n:Int):=by omega
 have HFT:=hid (fun(X:World) (hX:Below w.heap.size w X) (sa:Option Addr) (sn sc:Nat) (S:List Int) (hs:S.length=sn) (hsm:sn<=1000) (hi:zAI X sa S)=>r4fit_c X (some ⟨b,off,none⟩) a2 sa n cap n2 cap2 sn sc M y S hn hn2 hs hm hm2 hsm (H.below hX) (H2.below hX) hi)
 have HST:=hid (r3sets_c w (zAB M) hc10)
 have HSL:=hid (fun(s:List Int) (hs:s∈allS (zAB M))=>(zPQ hs).1)
 have HSC:=hid (allS_le hc10)
 have HAF:=hid (show allF M y=(allS (zAB M)).filterMap (fitF M y)from rfl)
 obtain⟨R,hR⟩:=exq (allF M y)
 obtain⟨SS,hSS⟩:=exq (allS (zAB M))
 obtain⟨W,hW⟩:=exq (zAB M)
 rw[<- hSS]at HST HSL HSC HAF
 rw[<- hR]at HAF⊢
 rw[<- hW]at HST HSL hc hc10
 clear hn hn2 hm hm2 H H2 hM h1 h6 hc1 hR hSS hW
 go_enter Tryz.func157,Tryz.ntmps157
 go_wp2_with (go_at_call 182;refine HST.out.mono ?_;rintro e w1 ⟨v1,rfl,hT,hb1⟩;refine Stop.of ?_)
 refine Stop.go ?_
 obtain⟨vs,hvo,_⟩:=id hT
 obtain⟨ta,tc,rfl⟩:=zAD hvo
 have hTR:=hT.rows rfl (fun r hr=>by have:=HSL.out r hr;unfold maxLen;omega)
 have HTR:=hid hTR
 have HB1:=hid hb1
 have hsc:=HSC.out
 clear hT hvo hTR hb1 hc hb HST
 go_wp2
 go_loopw [5,16] (fun v i wr=>∃k:Nat,k<=SS.length∧i=.int .i64 k∧zKE wr w1.heap.size v ((SS.take k).filterMap (fitF M y))∧Below w1.heap.size w1 wr) (fun _ i _=>SS.length-(intOf i).toNat)
 case atStart=>exact⟨0,Nat.zero_le _,rfl,zKE.nil _ _,Below.refl _ _⟩
 case round=>
  obtain⟨k,hk,rfl,ho,hbk⟩:=hrel
  by_cases hlt:k<SS.length
  ·obtain⟨sb,so,sa,sn,sc,rfl,hsb,hsc',hsn,hsm,hsi⟩:=(HTR.out.below hbk) k hlt
   have hft:=zNG (fitF M y) SS hlt
   have hsn10:sn<=1000:=by have:=HSL.out _ (List.getElem_mem hlt);omega
   obtain⟨S,hS⟩:=exq (SS[k]'hlt)
   rw[<- hS]at hsn hsi hft
   have hfit:=HFT.out wr (zAA HB1.out hbk) sa sn sc S hsn hsn10 hsi
   have hcnt:((SS.take k).filterMap (fitF M y)).length<=20000:=by
    have h1:=List.length_filterMap_le (fitF M y) (SS.take k)
    rw[List.length_take]at h1;omega
   obtain⟨C,hC⟩:=exq ((SS.take k).filterMap (fitF M y))
   rw[<- hC]at ho hft hcnt
   have HFI:=hid hfit
   have HFT2:=hid hft
   have HO:=hid ho
   have HBK:=hid hbk
   have HCN:=hid hcnt
   have hki:(k:Int)<(SS.length:Int):=by omega
   have hki0:(0:Int)<=(k:Int):=by omega
   clear hfit hft ho hbk hcnt hS hC hsn hsm hsi
   go_wp2_with (go_at_call 116;refine HFI.out.mono ?_;rintro e w2 ⟨⟨hno,rfl⟩|⟨f,us,ur,hf,rfl,hu,hr⟩,hb2⟩<;>refine Stop.of ?_)
   ·refine Stop.go ?_
    have hft2:=HFT2.out
    rw[hno]at hft2
    simp only[Option.toList_none,List.append_nil]at hft2
    have HF2:=hid hft2
    have hba:∀o:Obj,Below wr.heap.size wr (w2.alloc o):=fun o=>hb2.alloc hb2.size o
    have HBA:=hid hba
    clear hno hft2 hba hb2
    go_wp2
    refine⟨⟨k+1,by omega,by go_num,?_,zAA HBK.out (HBA.out _)⟩,by simp[intOf];omega⟩
    rw[HF2.out];exact HO.out.below (HBA.out _)
   ·refine Stop.go ?_
    have hft2:=HFT2.out
    rw[hf]at hft2
    simp only[Option.toList_some]at hft2
    obtain⟨pa,pn,pc,rfl,_⟩:=id (hu 0)
    obtain⟨qa,qn,qc,rfl,_⟩:=id (hr 0)
    have hba:Below w2.heap.size w2 (w2.alloc (.cells #[.slice pa pn pc,.slice qa qn qc] 73)):=(Below.refl _ _).alloc (Nat.le_refl _) _
    have hFO:=HO.out.below (zAA hb2 hba)
    obtain⟨xs,hoo,hoe⟩:=hFO
    obtain⟨va,vc,rfl⟩:=zAD hoo
    have hEI:=(hu w1.heap.size).keep (Keep.of_below hba:Keep (fun _=>True) _ _) (fun _ _ _ _=>trivial)
    have hEQ:=(hr w1.heap.size).below hba
    have HF2:=hid hft2
    have HOO:=hid hoo
    have HOE:=hid hoe
    have HEI:=hid hEI
    have HEQ:=hid hEQ
    have hBW:=zAA HBK.out (zAA hb2 hba)
    have HBW:=hid hBW
    have hnw:=news2 (w2.alloc (.cells #[.slice pa pn pc,.slice qa qn qc] 73)) (.slice pa pn pc) (.slice qa qn qc) 73
    rw[World.size_alloc]at hnw
    have HNW:=hid hnw
    have M1:=hid (show C.length+1<=maxLen by have:=HCN.out;unfold maxLen;omega)
    have M2:=hid (show(C.length+1)*48<=140737488355328 by have:=HCN.out;omega)
    have M3:=hid (Nat.le_trans hBW.size (zBS _ (.cells #[.slice pa pn pc,.slice qa qn qc] 73)))
    have HONE:=hid (show ∀u∈[Value.slice pa pn pc,.slice qa qn qc],u.oneCell'=true from fun u hu=>by simp at hu;rcases hu with rfl|rfl<;>rfl)
    clear hf hft2 hba hoo hoe hEI hEQ hBW hnw hu hr hb2
    go_wp2_with (at_builtin;refine zAK _ rfl (.tmp 28) (.tmp 30) 87 rfl w1.heap.size 73 (.agg #[.slice none 0 0,.slice none 0 0]) 2 48 Tryz.underlying87 zHO rfl (by decide) (.slice va C.length vc) C.length xs rfl (HOO.out.alloc _) (some ⟨w2.heap.size+1,0,none⟩) 1 1 [.slice pa pn pc,.slice qa qn qc] rfl rfl zBP HNW.out HONE.out M1.out M2.out M3.out ?_;intro a9 c9 w9 own9 g9;refine Stop.of ?_)
    refine Stop.go ?_
    have hsn:=zKE.snoc (t:=f) HOO.out HOE.out HEI.out HEQ.out ((Below.refl _ _).alloc (Nat.le_refl _) _) g9 own9
    have hB9:Below w1.heap.size w1 w9:=(HBW.out.alloc HBW.out.size _).grown g9 M3.out (fun g hg=>(HOO.out.lt g hg).1)
    rw[<- HF2.out]at hsn
    have HSN:=hid hsn
    have HB9:=hid hB9
    clear hsn hB9 own9 g9
    go_wp2
    exact⟨⟨k+1,by omega,by go_num,HSN.out,HB9.out⟩,by simp[intOf];omega⟩
  ·obtain rfl:k=SS.length:=by omega
   rw[List.take_of_length_le (Nat.le_refl _),<- HAF.out]at ho
   have HO:=hid ho
   have HBK:=hid hbk
   clear ho hbk
   go_wp2
   go_ret
   exact⟨_,w1.heap.size,rfl,HB1.out.size,HO.out,zAA HB1.out HBK.out⟩
end
section
open Go.RowKit
def FitC(W:World)(S:Nat->Prop)(us ur:Value)(f:FitT):Prop:=
 ∃pa pn pc va vn vc,us=.slice pa pn pc∧ur=.slice va vn vc∧f.1.length=pn∧f.2.length=vn∧pn<=maxLen∧vn<=maxLen∧zAI W pa f.1∧zCJ W va f.2∧
  (∀b o,pa=some ⟨b,o,none⟩->S b∧b<W.heap.size∧∃c z,W.heap[b]? =some (.cells c 3 z))∧(∀b o,va=some ⟨b,o,none⟩->S b∧b<W.heap.size∧∃c z,W.heap[b]? =some (.cells c 29 z))
theorem FitC.keep{W W':World}{S S' K:Nat->Prop}{us ur:Value}{f:FitT}(h:FitC W S us ur f)(hk:Keep K W W')(hS:∀b,S b->b<W.heap.size->(∃c T z,(T=3∨T=29)∧W.heap[b]? =some (.cells c T z))->K b∧S' b):FitC W' S' us ur f:=by
 obtain⟨pa,pn,pc,va,vn,vc,e1,e2,h1,h2,h3,h4,h5,h6,h7,h8⟩:=h
 have s7:∀b o,pa=some ⟨b,o,none⟩->K b∧S' b:=fun b o e=>by obtain⟨g1,g2,c,z,g3⟩:=h7 b o e;exact hS b g1 g2 ⟨c,_,z,.inl rfl,g3⟩
 have s8:∀b o,va=some ⟨b,o,none⟩->K b∧S' b:=fun b o e=>by obtain⟨g1,g2,c,z,g3⟩:=h8 b o e;exact hS b g1 g2 ⟨c,_,z,.inr rfl,g3⟩
 refine⟨pa,pn,pc,va,vn,vc,e1,e2,h1,h2,h3,h4,fun j hj=>?_,fun j hj=>?_,fun b o e=>?_,fun b o e=>?_⟩
 ·obtain⟨b,o,e,hlt,hc⟩:=h5 j hj
  exact⟨b,o,e,Nat.lt_of_lt_of_le hlt hk.size,hk.cell hc (s7 b o e).1⟩
 ·obtain⟨b,o,e,hlt,hc,hd⟩:=h6 j hj
  exact⟨b,o,e,Nat.lt_of_lt_of_le hlt hk.size,hk.cell hc (s8 b o e).1,hk.cell hd (s8 b o e).1⟩
 ·obtain⟨g1,g2,c,z,g3⟩:=h7 b o e
  exact⟨(s7 b o e).2,Nat.lt_of_lt_of_le g2 hk.size,c,z,(hk.block b g2 (s7 b o e).1).trans g3⟩
 ·obtain⟨g1,g2,c,z,g3⟩:=h8 b o e
  exact⟨(s8 b o e).2,Nat.lt_of_lt_of_le g2 hk.size,c,z,(hk.block b g2 (s8 b o e).1).trans g3⟩
def zCR(W:World)(base:Nat)(S:Nat->Prop)(v:Value)(T:List FitT):Prop:=
 ∃xs,W.ownsRow base 73 2 v T.length xs∧(∀k,v.ownBlock=some k->S k)∧∀j (hj:j<T.length),∃us ur,xs[j*2]? =some us∧xs[j*2+1]? =some ur∧FitC W S us ur T[j]
theorem zCR.nil(W:World)(base:Nat)(S:Nat->Prop):zCR W base S (.slice none 0 0) []:=⟨[],World.ownsRow_nil _ _ _ _,fun k hk=>by simp[Value.ownBlock]at hk,fun j hj=>by simp at hj⟩
theorem zCR.slice{W:World}{base:Nat}{S:Nat->Prop}{v:Value}{T:List FitT}(h:zCR W base S v T):∃a c,v=.slice a T.length c:=by
 obtain⟨xs,ho,_⟩:=h;exact zAD ho
theorem zCR.keep{W W':World}{base:Nat}{S S' K:Nat->Prop}{v:Value}{T:List FitT}(h:zCR W base S v T)(hk:Keep K W W')(hS:∀b,S b->b<W.heap.size->K b∧S' b):zCR W' base S' v T:=by
 obtain⟨xs,ho,hg,he⟩:=h
 refine⟨xs,⟨ho.1,?_⟩,fun k hk'=>?_,fun j hj=>?_⟩
 ·rcases ho.2 with hn|⟨g,cap,cur,rfl,hb,hgg,rest⟩
  ·exact .inl hn
  ·have hlt:=(Array.getElem?_eq_some_iff.1 hgg).1
   exact .inr ⟨g,cap,cur,rfl,hb,(hk.block g hlt (hS g (hg g rfl) hlt).1).trans hgg,rest⟩
 ·rcases ho.2 with⟨rfl,_⟩|⟨g,cap,cur,rfl,hb,hgg,rest⟩
  ·simp[Value.ownBlock]at hk'
  ·obtain rfl:g=k:=by simpa[Value.ownBlock]using hk'
   exact(hS g (hg g rfl) (Array.getElem?_eq_some_iff.1 hgg).1).2
 ·obtain⟨us,ur,h1,h2,h3⟩:=he j hj
  exact⟨us,ur,h1,h2,h3.keep hk fun b hb hlt _=>hS b hb hlt⟩
theorem zCR.below{W W':World}{base:Nat}{S:Nat->Prop}{v:Value}{T:List FitT}(h:zCR W base S v T)(hb:Below W.heap.size W W'):zCR W' base S v T:=
 h.keep (Keep.of_below hb:Keep (fun _=>True) _ _) (fun _ h _=>⟨trivial,h⟩)
theorem zCR.snoc{W w1 w2:World}{base:Nat}{S:Nat->Prop}{v v' us ur:Value}{T:List FitT}{t:FitT}{xs:List Value}
 (ho:W.ownsRow base 73 2 v T.length xs)(he:∀j (hj:j<T.length),∃us ur,xs[j*2]? =some us∧xs[j*2+1]? =some ur∧FitC W S us ur T[j])(h1:FitC W S us ur t)
 (hW1:Below W.heap.size W w1)(hg:w1.grownBy w2 v.ownBlock)(ho':w2.ownsRow base 73 2 v' (T.length+1) (xs++[us,ur]))(hS':∀k,v'.ownBlock=some k->S k):zCR w2 base S v' (T++[t]):=by
 have hlen:xs.length=T.length*2:=ho.1
 have hk:Keep (fun b=>some b≠v.ownBlock) W w2:=(Keep.of_below hW1).trans (Keep.grown hg)
 have hel:∀us ur f,FitC W S us ur f->FitC w2 S us ur f:=fun us ur f h=>h.keep hk fun b hb hlt ⟨c,E,z,hE,hh⟩=>by
  refine⟨?_,hb⟩
  rcases ho.2 with⟨rfl,_⟩|⟨g,cap,cur,rfl,hbg,hgg,_⟩
  ·simp[Value.ownBlock]
  ·intro e
   obtain rfl:b=g:=by simpa[Value.ownBlock]using e
   rw[hh]at hgg
   cases hgg
   rcases hE with h|h
   ·exact absurd h (by decide)
   ·exact absurd h (by decide)
 refine⟨xs++[us,ur],by rw[List.length_append];exact ho',hS',fun j hj=>?_⟩
 by_cases e:j<T.length
 ·obtain⟨us',ur',k1,k2,k3⟩:=he j e
  refine⟨us',ur',by rw[List.getElem?_append_left (by omega)];exact k1,by rw[List.getElem?_append_left (by omega)];exact k2,?_⟩
  rw[List.getElem_append_left e];exact hel _ _ _ k3
 ·have:j=T.length:=by simp at hj;omega
  subst this
  refine⟨us,ur,by rw[List.getElem?_append_right (by omega),hlen];simp,by rw[List.getElem?_append_right (by omega),hlen,show T.length*2+1-T.length*2=1 by omega];rfl,?_⟩
  simp only[List.getElem_append_right (Nat.le_refl _),Nat.sub_self,List.getElem_cons_zero]
  exact hel _ _ _ h1
theorem FitV.fitC{lo:Nat}{S S':Nat->Prop}{f:FitT}{us ur:Value}{W:World}(h:FitV lo S f (.agg #[us,ur]) W)(hS:∀b,lo<=b->b<W.heap.size->¬S b->S' b):FitC W S' us ur f:=by
 obtain⟨pa,pn,pc,va,vn,vc,e,h1,h2,h3,h4,h5,h6,h7,h8⟩:=h
 simp only[Value.agg.injEq,Array.mk.injEq,List.cons.injEq,and_true]at e
 obtain⟨rfl,rfl⟩:=e
 refine⟨pa,pn,pc,va,vn,vc,rfl,rfl,h1,h2,h3,h4,h5,h6,fun b o e=>?_,fun b o e=>?_⟩
 ·obtain⟨g1,g2,g3,g4⟩:=h7 b o e
  exact⟨hS b g1 g2 g3,g2,g4⟩
 ·obtain⟨g1,g2,g3,g4⟩:=h8 b o e
  exact⟨hS b g1 g2 g3,g2,g4⟩
end
section
open Go.RowKit
attribute [local go_sem] Oper.semAt_some
theorem newsD(w:World)(x0 x1:Value)(T:TypeId):∀j u,[x0,x1][j]? =some u->(w.alloc (.cells #[x0,x1] T)).cell? ((⟨w.heap.size,0,none⟩:Addr).add j)=some u:=by
 intro j u hu
 match j,hu with
 |0,hu=>rw[Addr.add_lit,World.cell?_alloc_at _ _ _ _ rfl];simpa using hu
 |1,hu=>rw[Addr.add_lit,World.cell?_alloc_at _ _ _ _ rfl];simpa using hu
structure ColI (w:World) (base:Nat) (Sr:Nat->Prop) (pre:List FitT) (Z:World):Prop where
 b:Below w.heap.size w Z
 z:base<=Z.heap.size
 o:∃v,Boxed Z w.heap.size 87 v∧zCR Z base (fun q=>base<=q∧¬Sr q) v pre
theorem ColI.keep{w A B:World}{base:Nat}{S S':Nat->Prop}{pre:List FitT}(h:ColI w base S pre A)(hn:∀k,S' k->S k∨A.heap.size<=k)(hl:∀k,S' k->base<=k)(hb:w.heap.size<base)
 (hk:Keep (fun k=>(k<=w.heap.size∨base<=k)∧¬S' k) A B):ColI w base S' pre B:=by
 have hns:∀k,k<base->¬S' k:=fun k hk hs=>by have:=hl k hs;omega
 obtain⟨v,h1,h2⟩:=h.o
 refine⟨hk.below h.b h.b.size fun k hk=>⟨by omega,hns k (by omega)⟩,Nat.le_trans h.z hk.size,v,(hk.block _ h1.lt ⟨by omega,hns _ (by omega)⟩).trans h1,h2.keep hk fun q hq hlt=>?_⟩
 have h4:¬S' q:=fun hs=>by
  rcases hn q hs with h|h
  ·exact hq.2 h
  ·omega
 exact⟨⟨.inr hq.1,h4⟩,hq.1,h4⟩
theorem appendFits_c(w:World)(k kb qb:Nat)(a a2:Option Addr)(n cap n2 cap2:Nat)(M:Mask)(y:List Int)(hn:M.length=n)(hn2:y.length=n2)(hm:n<=maxLen)(hm2:n2<=maxLen)(h1:1<=n)(hW:zAB M<=10)(hk:k<=1000)
 (hkb:kb<w.heap.size)(hqb:qb<w.heap.size)(hck:w.cell? ⟨kb,0,none⟩=some (.int .i64 k))(hcq:w.heap[qb]? =some (.cells #[.slice a n cap,.slice a2 n2 cap2] 216 (0,0)))(H:zAN w a M)(H2:zAI w a2 y):
 Calls Tryz.prog 253 #[.slice none 0 0,.func (.func 254) #[] #[.pointer (some ⟨kb,0,none⟩),.pointer (some ⟨qb,0,none⟩)]] w fun e w'=>
  Below w.heap.size w w'∧∃v base,e=.returned v∧w.heap.size<=base∧zCR w' base (fun q=>w.heap.size<=q) v (zBI M y k):=by
 obtain⟨w1,hw1⟩:=exq (w.alloc (.cells #[.slice none 0 0] 87))
 have hs1:w1.heap.size=w.heap.size+1:=by rw[hw1,World.size_alloc]
 have hb1:Below w.heap.size w w1:=by rw[hw1];exact(Below.refl _ _).alloc (Nat.le_refl _) _
 have hB:Boxed w1 w.heap.size 87 (.slice none 0 0):=by rw[hw1];exact World.alloc_heap_new _ _
 obtain⟨fp,hfp⟩:∃fp:Nat->Prop,fp=fun q=>q<w.heap.size:=⟨_,rfl⟩
 have HIT:=hid (fits_iter w1 fp k kb qb a a2 n cap n2 cap2 M y hn hn2 hm hm2 h1 (by omega) hk (by rw[hfp];intro q hq;show q<w1.heap.size;have:q<w.heap.size:=hq;omega) (by rw[hfp];exact hkb) (by rw[hfp];exact hqb)
  ((hb1.cell (p:=⟨kb,0,none⟩) hkb).trans hck) ((hb1.block _ hqb).trans hcq)
  (fun X _ hX=>by
    have hX2:∀q,q<w.heap.size->X.heap[q]? =w.heap[q]? :=fun q hq=>(hX q (by rw[hfp];exact hq)).trans (hb1.block q hq)
    exact⟨zAN.blk H hX2,zAI.blk H2 hX2⟩))
 have HCNT:=hid (show(zBI M y k).length<=11264 by
  have h3:=zDG M y (zAB M) (min (min k (zAB M)) M.length+1)
  have h4:2 ^ (zAB M)<=1024:=Nat.pow_le_pow_right (by omega) (show zAB M<=10 by omega)
  have h5:(min (min k (zAB M)) M.length+1)*2 ^ (zAB M)<=11*1024:=Nat.mul_le_mul (by omega) h4
  have h6:(zBI M y k).length=(zBU M y (zAB M) (min (min k (zAB M)) M.length+1)).length:=rfl
  omega)
 have HFP:=hid hfp
 have HW1:=hid hw1
 have HS1:=hid hs1
 have HB1:=hid hb1
 have HBX:=hid hB
 clear hn hn2 hm hm2 h1 hW hk hkb hqb hck hcq H H2 hw1 hs1 hb1 hB hfp
 refine callsIn_wide (n:=0) |>.1 ?_
 refine callsIn_of_wp_marks Tryz.func253 rfl trivial ?_ rfl
 simp only[Tryz.ntmps253,List.size_toArray,List.length_cons,List.length_nil,Nat.reduceAdd,Nat.reduceSub,Array.replicate_succ,Array.replicate_zero,List.push_toArray,List.append_toArray,List.nil_append,List.cons_append]
 gi_wp2
 rw[<- HW1.out]
 refine range_s (gf:=254) (lb:=#[.pointer (some ⟨kb,0,none⟩),.pointer (some ⟨qb,0,none⟩)]) (xs:=zBI M y k) (fp:=fp) (V:=FitV) rfl (enters_of Tryz.func254 (by kernel_rfl) rfl)
  HIT.out (Below.refl _ _) (by rw[HFP.out];intro q h;have:=HS1.out;have:q<w.heap.size:=h;omega)
  (fun Sr pre Z=>ColI w (w1.heap.size+2) Sr pre Z)
  (fun _ _ _ _=>False) ?hI (fun _ _ _ _ _ _ h=>h.elim) ?hV ?h0
  (fun v a' Z=>∃p u1 u2 f0 f1,a'={tmps:=#[.slice none 0 0,f0,.pointer (some ⟨w.heap.size,0,none⟩),undef,.slice none 0 0,.pointer (some ⟨p,0,none⟩),f1,v,undef,undef,undef,undef,undef],defers:=[]}∧v=.agg #[u1,u2]∧w1.heap.size+2<=p∧Z.heap[p]? =some (.cells #[u1,u2] 73 (0,0))) ?hAx ?hassign ?hbody ?hdone ?hstop
 case hI=>
  intro Sr Sr' s A B hIA h1 h2 h3 h4 hk
  exact hIA.keep h2 h3 (by have:=HS1.out;omega) (hk.mono fun k hk=>by have:=HS1.out;exact⟨by omega,by omega,hk.2⟩)
 case hV=>
  intro Sr x v A B hv hk
  exact hv.keep hk (fun k hk=>⟨by omega,by omega⟩)
 case h0=>
  intro Z hk hZ
  have hs1:=HS1.out
  exact⟨hk.below HB1.out HB1.out.size fun k hk=>by omega,hZ,_,(hk.block _ HBX.out.lt (by show _<_;omega)).trans HBX.out,zCR.nil _ _ _⟩
 case hAx=>
  rintro v a' A B ⟨p,u1,u2,f0,f1,e1,e2,hp,hc⟩ hk
  exact⟨p,u1,u2,f0,f1,e1,e2,hp,(hk.block p (Array.getElem?_eq_some_iff.1 hc).1 ⟨by omega,by omega⟩).trans hc⟩
 case hassign=>
  rintro l Sr x v Z K hZ ⟨pa,pn,pc,va,vn,vc,rfl,_⟩ hK
  gi_wp2
  refine hK _ _ ((Below.refl _ _).alloc (Nat.le_refl _) _) ⟨Z.heap.size,_,_,_,_,rfl,rfl,hZ,World.alloc_heap_new Z _⟩
 case hbody=>
  rintro l' Sr pre f _ _ Z hpre hSr hI hv ⟨p,u1,u2,f0,f1,rfl,rfl,hp,hpc⟩ hZ hDo hLo
  obtain⟨v,hvb,hro⟩:=hI.o
  have hFC:FitC Z (fun q=>w1.heap.size+2<=q∧¬Sr q) u1 u2 f:=hv.fitC fun b h1 h2 h3=>⟨h1,h3⟩
  have hcnt:pre.length+1<=11264:=by have h1:=HCNT.out;have h2:=hpre.length_le;simp at h2;omega
  obtain⟨pa,pn,pc,va,vn,vc,e1,e2,_⟩:=id hFC
  subst e1 e2
  have hp0:Z.cell? ⟨p,0,none⟩=some (.slice pa pn pc):=by simp[World.cell?,hpc]
  have hp1:Z.cell? ⟨p,1,none⟩=some (.slice va vn vc):=by simp[World.cell?,hpc]
  have hbc:=hvb.cell
  obtain⟨xs,ho,hg,he⟩:=hro
  obtain⟨i0,hi0,hz0,hz1,hz2⟩:=info_parts zHO
  have HI:=hid hI
  have HVB:=hid hvb
  have HO:=hid ho
  have HG:=hid hg
  have HE:=hid he
  have HFC:=hid hFC
  have HSR:=hid hSr
  have M1:=hid (show pre.length+1<=maxLen by unfold maxLen;omega)
  have M2:=hid (show(pre.length+1)*48<=140737488355328 by omega)
  have M3:=hid (show w1.heap.size+2<=(Z.alloc (.cells #[.slice pa pn pc,.slice va vn vc] 73)).heap.size by simp;omega)
  have HZ:=hid hZ
  clear hI hvb ho hg he hFC hSr hpre hv hcnt hDo hLo hpc
  gi_wp2_with (gi_at_builtin;go_loud (refine wpListIn_append_own_at _ rfl _ _ 87 rfl (w1.heap.size+2) 73 i0 (.agg #[.slice none 0 0,.slice none 0 0]) 2 48 Tryz.underlying87 hi0 hz0 hz1 hz2 rfl (by decide) v _ _ rfl (HO.out.alloc _) ⟨Z.heap.size,0,none⟩ 1 1 [.slice pa pn pc,.slice va vn vc] rfl rfl (newsD Z _ _ _) (by intro u hu;simp at hu;rcases hu with rfl|rfl<;>rfl) M1.out M2.out M3.out ?_;refine Stop.of ?_))
  refine Stop.go ?_
  intro v5 w9 own5 g5 _ hat5
  obtain⟨a5,c5,rfl⟩:=zAD own5
  have hob:∀q,v.ownBlock=some q->w1.heap.size+2<=q∧¬Sr q:=fun q hq=>HG.out q hq
  have hs1:=HS1.out
  have hzz:=HZ.out
  have hZ1:Below Z.heap.size Z (Z.alloc (.cells #[.slice pa pn pc,.slice va vn vc] 73)):=(Below.refl _ _).alloc (Nat.le_refl _) _
  have hK9:Keep (fun q=>some q≠v.ownBlock) Z w9:=(Keep.of_below hZ1).trans (Keep.grown g5)
  have hS5:∀q,(Value.slice a5 (pre.length+1) c5).ownBlock=some q->w1.heap.size+2<=q∧¬Sr q:=fun q hq=>by
   rcases hat5 with e|e
   ·exact hob q (by rw[<- e];exact hq)
   ·rw[e]at hq
    cases hq
    exact⟨by omega,fun hs=>by have:=(HSR.out _ hs).2;omega⟩
  have hF9:zCR w9 (w1.heap.size+2) (fun q=>w1.heap.size+2<=q∧¬Sr q) (.slice a5 (pre.length+1) c5) (pre++[f]):=zCR.snoc HO.out HE.out HFC.out hZ1 g5 own5 hS5
  have hbx9:Boxed w9 w.heap.size 87 v:=(hK9.block _ HVB.out.lt (by intro e;have:=(hob _ e.symm).1;omega)).trans HVB.out
  have hc9:=hbx9.cell
  have hf9:=hbx9.frozen
  obtain⟨wA,hwA⟩:=exq (w9.setCell ⟨w.heap.size,0,none⟩ (.slice a5 (pre.length+1) c5))
  have kA:Keep (fun q=>q≠w.heap.size) w9 wA:=by rw[hwA];exact Keep.set w9 _ 0 _
  have nA:Boxed wA w.heap.size 87 (.slice a5 (pre.length+1) c5):=by rw[hwA];exact hbx9.set _
  have HA:=hid (And.intro nA (And.intro kA (And.intro hF9 hK9)))
  have HWA:=hid hwA
  have HOB:=hid hob
  clear own5 g5 hat5 hob hK9 hS5 hF9 hbx9 hwA kA nA hs1 hzz hZ1 hi0 hz0 hz1 hz2
  gi_wp2
  rw[<- HWA.out]
  obtain⟨nA,kA,hF9,hK9⟩:=HA.out
  have hs1:=HS1.out
  have kk:Keep (fun q=>q≠w.heap.size∧some q≠v.ownBlock) Z wA:=(hK9.mono fun q hq=>hq.2).trans (kA.mono fun q hq=>hq.1)
  refine⟨kk.size,fun q hq=>?_,?_⟩
  ·have hq1:q<Z.heap.size∧q≠w.heap.size∧some q≠v.ownBlock:=by
    have hzz:=HZ.out
    rcases hq with h|h|h|h
    ·rw[HFP.out]at h
     have h':q<w.heap.size:=h
     exact⟨by omega,by omega,fun e=>by have:=(HOB.out _ e.symm).1;omega⟩
    ·exact⟨by omega,by omega,fun e=>by have:=(HOB.out _ e.symm).1;omega⟩
    ·exact⟨by omega,by omega,fun e=>by have:=(HOB.out _ e.symm).1;omega⟩
    ·have:=HSR.out q h
     exact⟨this.2,by omega,fun e=>(HOB.out _ e.symm).2 h⟩
   exact kk.block q hq1.1 hq1.2
  ·refine⟨kk.below HI.out.b HI.out.b.size fun q hq=>⟨by omega,fun e=>by have:=(HOB.out _ e.symm).1;omega⟩,Nat.le_trans HZ.out kk.size,_,nA,hF9.keep kA fun q hq _=>⟨by have:=hq.1;omega,hq⟩⟩
 case hdone=>
  intro Sr Z hZ hSr hI hmk
  obtain⟨v,hvb,hro⟩:=hI.o
  have hcv:=hvb.cell
  have HI:=hid hI
  have HRO:=hid hro
  have HMR:=hid hmk
  obtain⟨va,vc,rfl⟩:=hro.slice
  clear hI hvb hro hmk hSr
  gi_wp2
  have hs1:=HS1.out
  refine zGG [w1.heap.size] Z (by simp) (fun h hh=>by rw[List.mem_singleton.1 hh];exact HMR.out) fun w' hk=>?_
  refine⟨_,results_tmp rfl _ _ _,hk.below HI.out.b HI.out.b.size (fun k hk hh=>by rw[List.mem_singleton.1 hh]at hk;omega),_,w1.heap.size+2,rfl,by omega,?_⟩
  exact HRO.out.keep hk (fun q hq _=>⟨fun hh=>by have:=hq.1;rw[List.mem_singleton.1 hh]at this;omega,by have:=hq.1;omega⟩)
 case hstop=>
  intro Sr c pre Z hpre hSr hI hmk
  exact hI.elim
end
section
open Go.RowKit
theorem zPL(w:World)(k kb qb:Nat)(a a2:Option Addr)(n cap n2 cap2:Nat)(M:Mask)(y:List Int)(hn:M.length=n)(hn2:y.length=n2)(hm:n<=maxLen)(hm2:n2<=maxLen)(h1:1<=n)(hW:zAB M<=10)(hk:k<=1000)
 (hkb:kb<w.heap.size)(hqb:qb<w.heap.size)(hck:w.cell? ⟨kb,0,none⟩=some (.int .i64 k))(hcq:w.heap[qb]? =some (.cells #[.slice a n cap,.slice a2 n2 cap2] 216 (0,0)))(H:zAN w a M)(H2:zAI w a2 y):
 Calls Tryz.prog 233 #[.func (.func 254) #[] #[.pointer (some ⟨kb,0,none⟩),.pointer (some ⟨qb,0,none⟩)]] w fun e w'=>
  Below w.heap.size w w'∧∃v base,e=.returned v∧w.heap.size<=base∧zCR w' base (fun q=>w.heap.size<=q) v (zBI M y k):=by
 have HA:=hid (appendFits_c w k kb qb a a2 n cap n2 cap2 M y hn hn2 hm hm2 h1 hW hk hkb hqb hck hcq H H2)
 clear hn hn2 hm hm2 h1 hW hk hkb hqb hck hcq H H2
 go_enter Tryz.func233,Tryz.ntmps233
 go_wp2_with (go_at_call 253;refine HA.out.mono ?_;rintro e w1 ⟨hb,v,base,rfl,hbs,hf⟩)
 go_ret
 exact⟨hb,v,base,rfl,hbs,hf⟩
theorem collect2_c(X:World)(q:Nat)(a a2:Option Addr)(n cap n2 cap2:Nat)(M:Mask)(y:List Int)(hn:M.length=n)(hn2:y.length=n2)(hm:n<=maxLen)(hm2:n2<=maxLen)(h1:1<=n)(hW:zAB M<=10)(hk:q<=1000)(H:zAN X a M)(H2:zAI X a2 y)(X2:World)(hX2:X2=(X.alloc (.cells #[.slice a n cap,.slice a2 n2 cap2] 216)).alloc (.cells #[.int .i64 (q:Int)] 3)):
 Calls Tryz.prog 233 #[.func (.func 254) #[] #[.pointer (some ⟨X.heap.size+1,0,none⟩),.pointer (some ⟨X.heap.size,0,none⟩)]] X2 fun e w'=>
  Below X2.heap.size X2 w'∧∃v base,e=.returned v∧X2.heap.size<=base∧zCR w' base (fun q=>X2.heap.size<=q) v (zBI M y q):=by
 have hb2:Below X.heap.size X X2:=by rw[hX2];exact((Below.refl _ X).alloc (Nat.le_refl _) _).alloc (by simp) _
 have e1:X2.heap[X.heap.size]? =some (.cells #[.slice a n cap,.slice a2 n2 cap2] 216 (0,0)):=by
  rw[hX2,Below.heap_alloc _ _ _ (by simp)];exact World.alloc_heap_new _ _
 have e2:X2.cell? ⟨X.heap.size+1,0,none⟩=some (.int .i64 (q:Int)):=by
  have:=World.alloc_heap_new (X.alloc (.cells #[.slice a n cap,.slice a2 n2 cap2] 216)) (.cells #[.int .i64 (q:Int)] 3)
  rw[World.size_alloc,<- hX2]at this
  simp[World.cell?,this]
 have hs:X2.heap.size=X.heap.size+2:=by rw[hX2];simp
 exact zPL X2 q (X.heap.size+1) X.heap.size a a2 n cap n2 cap2 M y hn hn2 hm hm2 h1 hW hk (by omega) (by omega) e2 e1 (H.below hb2) (H2.below hb2)
theorem sparseFits_c(w:World)(a a2:Option Addr)(n cap n2 cap2:Nat)(M:Mask)(y:List Int)(k:Int)(hn:M.length=n)(hn2:y.length=n2)(hm:n<=maxLen)(hm2:n2<=maxLen)(H:zAN w a M)(H2:zAI w a2 y):
 Calls Tryz.prog 197 #[.slice a n cap,.slice a2 n2 cap2,.int .i64 k] w fun e w'=>Below w.heap.size w w'∧((zGN M y k≠0∧e=.returned (.tuple #[.slice none 0 0,.int .i64 (zGN M y k)]))∨
  (zGN M y k=0∧∃v base,e=.returned (.tuple #[v,.int .i64 0])∧w.heap.size<=base∧zCR w' base (fun q=>w.heap.size<=q) v (zBI M y k.toNat))):=by
 have HC:=hid (counted_c w a a2 n cap n2 cap2 M y k hn hn2 hm hm2 H H2)
 by_cases h0:zGN M y k=0
 ·obtain⟨hM,hyn,hyB,_⟩:=zGJ (show zAV M y []=0 by
   unfold zGN at h0;split at h0
   ·assumption
   ·exact h0)
  have hk:inB k 0 10=true:=by
   unfold zGN at h0;split at h0
   ·cases hb:inB k 0 10
    ·rw[hb]at h0;simp at h0
    ·rfl
   ·contradiction
  obtain⟨hM',h1,h6,hc1,hc10⟩:=zCT hM
  have hkk:∃q:Nat,k=(q:Int)∧q<=10:=⟨k.toNat,by unfold inB at hk;simp at hk;omega,by unfold inB at hk;simp at hk;omega⟩
  obtain⟨q,rfl,hq10⟩:=hkk
  have HCO:=hid (fun(X:World) (hX:Below w.heap.size w X) (X2:World)=>collect2_c X q a a2 n cap n2 cap2 M y hn hn2 hm hm2 (by omega) hc10 (by omega) (H.below hX) (H2.below hX) X2)
  rw[h0]at HC⊢
  rw[Int.toNat_natCast]
  obtain⟨F,hF⟩:=exq (zBI M y q)
  rw[<- hF]at HCO⊢
  clear hn hn2 hm hm2 H H2 h0 hM hyn hyB hk hM' h1 h6 hc1 hc10 hF
  go_enter Tryz.func197,Tryz.ntmps197
  go_wp2_with (go_at_call 232;refine HC.out.mono ?_;rintro e w1 ⟨rfl,hb1⟩;refine Stop.of ?_)
  refine Stop.go ?_
  have HB1:=hid hb1
  clear hb1
  go_wp2_with (go_at_call 234;refine(qfits_c _ _ _ _ _ _ _ _).mono ?_;rintro e w2 ⟨rfl,hw2⟩;have HW2:=hid hw2;clear hw2;refine Stop.of ?_)
  refine Stop.go ?_
  have hco:=HCO.out w1 HB1.out w2 HW2.out
  have HC2:=hid hco
  have HB12:=hid (show Below w1.heap.size w1 w2 by rw[HW2.out];exact((Below.refl _ w1).alloc (Nat.le_refl _) _).alloc (by simp) _)
  clear hco
  go_wp2_with (go_at_call 233;refine HC2.out.mono ?_;rintro e w3 ⟨hb3,v,base,rfl,hbs,hf⟩)
  go_ret2
  exact⟨zAA HB1.out (zAA HB12.out hb3),.inr ⟨trivial,v,base,rfl,by have:=HB1.out.size;have:=HB12.out.size;omega,hf.keep (Keep.refl (fun _=>True) _) fun q hq _=>⟨trivial,by have:=HB1.out.size;have:=HB12.out.size;omega⟩⟩⟩
 ·have hne:(zGN M y k !=0)=true:=by simpa using h0
  have H0:=hid h0
  obtain⟨E,hE⟩:=exq (zGN M y k)
  rw[<- hE]at HC hne H0⊢
  clear hn hn2 H H2 h0 hE
  go_enter Tryz.func197,Tryz.ntmps197
  go_wp2_with (go_at_call 232;refine HC.out.mono ?_;rintro e w1 ⟨rfl,hb1⟩)
  go_ret2
  exact⟨hb1,.inl ⟨H0.out,rfl⟩⟩
theorem dfits_c(w:World)(a a2:Option Addr)(n cap n2 cap2:Nat)(M:Mask)(y:List Int)(hn:M.length=n)(hn2:y.length=n2)(hm:n<=maxLen)(hm2:n2<=maxLen)(H:zAN w a M)(H2:zAI w a2 y)(h0:zAV M y []=0):
 Calls Tryz.prog 135 #[.agg #[.slice a n cap,.slice a2 n2 cap2]] w fun e w'=>Below w.heap.size w w'∧∃v base,e=.returned v∧w.heap.size<=base∧zCR w' base (fun q=>w.heap.size<=q) v (zBI M y 10):=by
 obtain⟨wz,hwz⟩:=exq (w.alloc (.cells #[.slice a n cap,.slice a2 n2 cap2] 86))
 have hbz:Below w.heap.size w wz:=by rw[hwz];exact(Below.refl _ _).alloc (Nat.le_refl _) _
 have l0:wz.cell? ⟨w.heap.size,0,none⟩=some (.slice a n cap):=by rw[hwz,World.cell?_alloc_at _ _ _ _ rfl];rfl
 have l1:wz.cell? ⟨w.heap.size,1,none⟩=some (.slice a2 n2 cap2):=by rw[hwz,World.cell?_alloc_at _ _ _ _ rfl];rfl
 have hc:zGN M y 10=0:=by unfold zGN;rw[if_pos h0];decide
 have HF:=hid (sparseFits_c wz a a2 n cap n2 cap2 M y 10 hn hn2 hm hm2 (H.below hbz) (H2.below hbz))
 rw[hc]at HF
 have HBZ:=hid hbz
 obtain⟨F,hF⟩:=exq (zBI M y 10)
 have hF2:F=zBI M y (10:Int).toNat:=hF
 rw[<- hF]
 rw[<- hF2]at HF
 have HW:=hid hwz
 clear hn hn2 hm hm2 H H2 h0 hbz hc hF hF2 hwz
 go_enter Tryz.func135,Tryz.ntmps135
 go_upto_region 1 with fail
 rw[<- HW.out]
 go_wp2_with (go_at_call 197;refine HF.out.mono ?_;rintro e w3 ⟨hb3,⟨hx,_⟩|⟨_,v,base,rfl,hbs,hf⟩⟩;first|exact absurd rfl hx|skip)
 go_ret
 exact⟨zAA HBZ.out hb3,v,base,rfl,Nat.le_trans HBZ.out.size hbs,hf.keep (Keep.refl (fun _=>True) _) fun q hq _=>⟨trivial,Nat.le_trans HBZ.out.size hq⟩⟩
end
section
section
theorem zEI{α:Type}(f:Nat->α)(g:Nat->Nat)(l:List α):∀(K:Nat),((List.range K).foldl (fun out i=>out.set (g i) (f i)) l).length=l.length
 |0=>by simp
 |K+1=>by rw[List.range_succ,List.foldl_append];simp[zEI f g l K]
theorem zKQ{α:Type}(f:Nat->α)(g:Nat->Nat)(l:List α):∀(K i:Nat),i<K->g i<l.length->(∀a b,a<b->b<K->g a≠g b)->((List.range K).foldl (fun out i=>out.set (g i) (f i)) l)[g i]? =some (f i)
 |0,i,h,_,_=>by omega
 |K+1,i,h,hl,hd=>by
  rw[List.range_succ,List.foldl_append]
  simp only[List.foldl_cons,List.foldl_nil]
  by_cases e:i=K
  ·subst e
   rw[List.getElem?_set_self (by rw[zEI];exact hl)]
  ·rw[List.getElem?_set_ne (fun e2=>hd i K (by omega) (by omega) e2.symm)]
   exact zKQ f g l K i (by omega) hl (fun a b h1 h2=>hd a b h1 (by omega))
end
section
open Go.RowKit
def rdE(M:Mask)(y:List Int):Int:=if okM M=true then zNE M y else 1
theorem zHL(M:Mask)(y:List Int):rdE M y=zAV M y []:=by
 unfold rdE zAV zNE pixE zDS
 cases okM M<;>simp[ascB]
theorem zHZ{M:Mask}{y:List Int}(h:rdE M y=0):okM M=true∧y.length=M.length∧milB y=true:=by
 rw[zHL]at h
 obtain⟨h1,h2,h3,_⟩:=zGJ h
 exact⟨h1,h2,h3⟩
theorem r3Read_c(w:World)(a a2:Option Addr)(n cap n2 cap2:Nat)(M:Mask)(y:List Int)(hn:M.length=n)(hn2:y.length=n2)(hm:n<=maxLen)(hm2:n2<=maxLen)(H:zAN w a M)(H2:zAI w a2 y):
 Calls Tryz.prog 71 #[.slice a n cap,.slice a2 n2 cap2] w fun e w'=>e=.returned (.int .i64 (rdE M y))∧w=w':=by
 have HV:=hid (r2Valid_c w a n cap M hn hm H)
 have HR:=hid (zMA w a2 n cap n2 cap2 M y a hn hn2 hm2 H2)
 unfold rdE
 cases hok:okM M
 ·rw[hok]at HV
  simp only[Bool.false_eq_true,if_false]
  clear hn hn2 H H2 hok HR
  go_enter Tryz.func71,Tryz.ntmps71
  go_wp2_with (go_at_call 68;refine HV.out.mono ?_;rintro e w1 ⟨rfl,rfl⟩)
  go_ret
  exact⟨rfl,rfl⟩
 ·rw[hok]at HV
  simp only[if_true]
  clear hn hn2 H H2 hok
  go_enter Tryz.func71,Tryz.ntmps71
  go_wp2_with (go_at_call 68;refine HV.out.mono ?_;rintro e w1 ⟨rfl,rfl⟩;refine Stop.of ?_)
  refine Stop.go ?_
  go_wp2_with (go_at_call 134;refine HR.out.mono ?_;rintro e w1 ⟨rfl,rfl⟩;refine Stop.of ?_)
  refine Stop.go ?_
  go_wp2
  go_ret
  exact⟨rfl,rfl⟩
end
section
open Go.RowKit
end
section
open Go.RowKit
theorem check_one{M:Mask}{y:List Int}(p:Int):zAV M y [p]=if rdE M y=0 then(if inB p 0 ((zAB M:Int)-1)=true then 0 else 5)else rdE M y:=by
 unfold zAV rdE zNE pixE
 cases hok:okM M
 ·simp
 ·simp only[if_true]
  by_cases h1:y.length=M.length
  ·rw[if_pos h1,if_pos h1]
   cases h2:milB y
   ·simp
   ·simp only[if_true]
    have:ascB [p]=true:=by unfold ascB;simp
    simp[zDS,this]
  ·rw[if_neg h1,if_neg h1];simp
end
end
section
open Go.RowKit
open Classical in
noncomputable def lift (W X:World):World:=if Below W.heap.size W X then X else W
theorem zCV(W X:World):Below W.heap.size W (lift W X):=by
 unfold lift;split
 ·assumption
 ·exact Below.refl _ _
theorem lift_of{W X:World}(h:Below W.heap.size W X):X=lift W X:=by unfold lift;rw[if_pos h]
theorem zBB{W:World}{b o:Nat}{v:Value}(hb:b<W.heap.size)(h:W.cell? ⟨b,o,none⟩=some v):∀X,(lift W X).cell? ⟨b,o,none⟩=some v:=fun X=>((zCV W X).cell (p:=⟨b,o,none⟩) hb).trans h
theorem zCF{P:Program}{f:FuncId}{args:Array Value}{W X:World}{v:Value}(h:Calls P f args (lift W X) fun e w'=>e=.returned v∧Below (lift W X).heap.size (lift W X) w'):
 Calls P f args (lift W X) fun e w''=>e=.returned v∧∃Y,w''=lift W Y:=
 h.mono fun e w' ⟨he,hb⟩=>⟨he,w',lift_of (zAA (zCV W X) hb)⟩
theorem zDC{P:Program}{id:Nat}{Q:Exit->Act->World->Prop}{a:Act}{w:World}{l:List Oper}(hm:P.follows .mixedOrders=true)(hB:Region.lexB .any l.toArray=true)
 (h:wpQuiet P l.toArray (fun w'=>∃X,w'=lift w X) (fun a'=>∀w',(∃X,w'=lift w X)->Q .normal a' w') l a):(Code.region id l.toArray true).wp P Q a w:=
 wp_region_quiet (C:=fun w'=>∃X,w'=lift w X) hm hB ⟨_,lift_of (⟨rfl,rfl,rfl,Nat.le_refl _,fun _ _=>rfl⟩:Below w.heap.size w {w with drawn:=w.drawn+1})⟩ (by simpa using h)
end
section
section
open Go.RowKit Go.Lib
def zCH(V:Int):Value:=.agg #[.int .i64 (V/18446744073709551616),.int .u64 (V%18446744073709551616)]
def cmpI(V U:Int):Int:=if V<U then-1 else if V=U then 0 else 1
theorem size_c(w:World)(n:Int)(h: -9223372036854775808<=n∧n<=9223372036854775807):Calls Tryz.prog 210 #[.int .i64 n] w fun e w'=>e=.returned (.int .u64 (n.natAbs:Nat))∧w=w':=by
 obtain⟨m,hm⟩:∃m:Int,m=(n.natAbs:Nat):=⟨_,rfl⟩
 rw[<- hm]
 by_cases h0:n<0
 ·have h1:IntKind.u64.wrap n=18446744073709551616+n:=by rw[IntKind.wrap_u64];omega
  have h2:IntKind.u64.wrap (-(18446744073709551616+n))=m:=by rw[IntKind.wrap_u64];omega
  clear hm
  go_enter Tryz.func210,Tryz.ntmps210
  go_wp2
  go_ret
  exact⟨rfl,rfl⟩
 ·have h1:IntKind.u64.wrap n=m:=by rw[IntKind.wrap_u64];omega
  clear hm
  go_enter Tryz.func210,Tryz.ntmps210
  go_wp2
  go_ret
  exact⟨rfl,rfl⟩
theorem mul64_c(x y:Nat)(hx:x<18446744073709551616)(hy:y<18446744073709551616)(w:World):
 Calls Tryz.prog 209 #[.int .u64 x,.int .u64 y] w fun e w'=>e=.returned (.tuple #[.int .u64 ((x*y/18446744073709551616:Nat):Int),.int .u64 ((x*y%18446744073709551616:Nat):Int)])∧w=w':=by
 obtain⟨bd,bt,bw,hhi⟩:=mul64_hi x y hx hy
 have ba:=half_mul_le (a:=x/4294967296) (b:=y/4294967296) (by omega) (by omega)
 have bb:=half_mul_le (a:=x/4294967296) (b:=y%4294967296) (by omega) (by omega)
 have bc:=half_mul_le (a:=x%4294967296) (b:=y/4294967296) (by omega) (by omega)
 have ba':x/4294967296*(y/4294967296)<18446744073709551616:=by omega
 have bb':x/4294967296*(y%4294967296)<18446744073709551616:=by omega
 have bc':x%4294967296*(y/4294967296)<18446744073709551616:=by omega
 have bh1:x/4294967296*(y/4294967296)+(x/4294967296*(y%4294967296)+x%4294967296*(y%4294967296)/4294967296)/4294967296<18446744073709551616:=by omega
 have bh:x/4294967296*(y/4294967296)+(x/4294967296*(y%4294967296)+x%4294967296*(y%4294967296)/4294967296)/4294967296+((x/4294967296*(y%4294967296)+x%4294967296*(y%4294967296)/4294967296)%4294967296+x%4294967296*(y/4294967296))/4294967296<18446744073709551616:=by omega
 go_enter Tryz.func209,Tryz.ntmps209
 go_wp2
 simp only[Mul64.maskN x hx,Mul64.maskN y hy,Mul64.divN,Mul64.mulN,Mul64.addN,Mul64.wrapN _ bd,Mul64.wrapN _ bb',Mul64.wrapN _ bt,Mul64.maskN _ bt,Mul64.wrapN _ bc',Mul64.wrapN _ bw,Mul64.wrapN _ ba',Mul64.wrapN _ bh1,Mul64.wrapN _ bh,Mul64.wrapM (x*y)]
 rw[hhi]
 go_ret2
 exact⟨rfl,rfl⟩
theorem sub64(x y b:Int)(hx:0<=x)(hy:0<=y)(hy':y<18446744073709551616)(hb0:0<=b)(hb:b<=1)(w:World):(callFunc 208 #[.int .u64 x,.int .u64 y,.int .u64 b]).run Tryz.prog w=
 .ok (.value (.tuple #[.int .u64 ((x-y-b)%18446744073709551616),.int .u64 (if x<y+b then 1 else 0)])) w:=by
 obtain⟨x,rfl⟩:=Int.eq_ofNat_of_zero_le hx
 obtain⟨y,rfl⟩:=Int.eq_ofNat_of_zero_le hy
 obtain⟨b,rfl⟩:=Int.eq_ofNat_of_zero_le hb0
 have e1:(((x+18446744073709551616-y-b)%18446744073709551616:Nat):Int)=((x:Int)-y-b)%18446744073709551616:=by omega
 have e2:((if x<y+b then 1 else 0:Nat):Int)=if (x:Int)<y+b then 1 else 0:=by split<;>split<;>omega
 rw[<- e1,<- e2]
 rw[run_callFunc_extern Tryz.func208 (by kernel_rfl) (by kernel_rfl) (by kernel_rfl) (e:=sub64Entry) (by kernel_rfl),run_sub64 x y b (by omega)]
 rfl
theorem sub64_0(x y:Int)(hx:0<=x)(hy:0<=y)(hy':y<18446744073709551616)(w:World):(callFunc 208 #[.int .u64 x,.int .u64 y,.int .u64 0]).run Tryz.prog w=
 .ok (.value (.tuple #[.int .u64 ((x-y)%18446744073709551616),.int .u64 (if x<y then 1 else 0)])) w:=by
 simpa using sub64 x y 0 hx hy hy' (Int.le_refl 0) (by decide) w
theorem opp_c(w:World)(h l:Int)(h0:0<=h)(h1:h<=4611686018427387904)(l0:0<=l)(l1:l<18446744073709551616):
 Calls Tryz.prog 149 #[.agg #[.int .i64 h,.int .u64 l]] w fun e w'=>e=.returned (zCH (-(h*18446744073709551616+l)))∧Below w.heap.size w w':=by
 obtain⟨b,hb⟩:∃b:Int,b=if (0:Int)<l then 1 else 0:=⟨_,rfl⟩
 have b0:0<=b:=by rw[hb];split<;>decide
 have b1:b<=1:=by rw[hb];split<;>decide
 have hL:(0-l)%18446744073709551616=(-(h*18446744073709551616+l))%18446744073709551616:=by omega
 have hH:IntKind.i64.wrap ((0-h-b)%18446744073709551616)=(-(h*18446744073709551616+l))/18446744073709551616:=by
  rw[IntKind.wrap_i64]
  rcases Int.lt_or_le 0 l with hl|hl
  ·rw[if_pos hl]at hb;subst hb;omega
  ·rw[if_neg (by omega)]at hb;subst hb;omega
 have hu:IntKind.u64.wrap h=h:=by rw[IntKind.wrap_u64];omega
 have s1:∀w,(callFunc 208 #[.int .u64 0,.int .u64 l,.int .u64 0]).run Tryz.prog w=.ok (.value (.tuple #[.int .u64 ((-(h*18446744073709551616+l))%18446744073709551616),.int .u64 b])) w:=fun w=>by
  rw[sub64_0 0 l (by decide) l0 l1,<- hb,hL]
 have s2:∀w,(callFunc 208 #[.int .u64 0,.int .u64 h,.int .u64 b]).run Tryz.prog w=.ok (.value (.tuple #[.int .u64 ((0-h-b)%18446744073709551616),.int .u64 (if 0<h+b then 1 else 0)])) w:=fun w=>sub64 0 h b (by decide) h0 (by omega) b0 b1 w
 obtain⟨bo,hbo⟩:∃bo:Int,bo=if 0<h+b then 1 else 0:=⟨_,rfl⟩
 rw[<- hbo]at s2
 unfold zCH
 obtain⟨R1,hR1⟩:=exq ((-(h*18446744073709551616+l))/18446744073709551616)
 obtain⟨R2,hR2⟩:=exq ((-(h*18446744073709551616+l))%18446744073709551616)
 obtain⟨R3,hR3⟩:=exq ((0-h-b)%18446744073709551616)
 rw[<- hR2]at s1
 rw[<- hR3]at s2 hH
 rw[<- hR1]at hH
 rw[<- hR1,<- hR2]
 clear hL hb hbo hR1 hR2 hR3 b0 b1
 go_enter Tryz.func149,Tryz.ntmps149
 go_wp2_with (first|simp only[s1]|simp only[s2])
 simp[bodyPost,results,Tryz.results149,go_sem]
 exact((Below.refl _ _).alloc (Nat.le_refl _) _).alloc (by simp) _
theorem cmp_lex{V U:Int}:(V/18446744073709551616<U/18446744073709551616->V<U)∧(U/18446744073709551616<V/18446744073709551616->U<V)∧
 (V/18446744073709551616=U/18446744073709551616->V%18446744073709551616<U%18446744073709551616->V<U)∧(V/18446744073709551616=U/18446744073709551616->U%18446744073709551616<V%18446744073709551616->U<V)∧
 (V/18446744073709551616=U/18446744073709551616->V%18446744073709551616=U%18446744073709551616->V=U):=by omega
theorem zDU(w:World)(V U:Int):Calls Tryz.prog 207 #[zCH V,zCH U] w fun e w'=>e=.returned (.int .i64 (cmpI V U))∧Below w.heap.size w w':=by
 obtain⟨k1,k2,k3,k4,k5⟩:=cmp_lex (V:=V) (U:=U)
 unfold zCH
 obtain⟨h,hh⟩:=exq (V/18446744073709551616)
 obtain⟨l,hl⟩:=exq (V%18446744073709551616)
 obtain⟨h',hh'⟩:∃h,h=U/18446744073709551616:=⟨_,rfl⟩
 obtain⟨l',hl'⟩:∃h,h=U%18446744073709551616:=⟨_,rfl⟩
 rw[<- hh,<- hl,<- hh',<- hl']
 rw[<- hh,<- hh']at k1 k2 k3 k4 k5
 rw[<- hl,<- hl']at k3 k4 k5
 clear hh hl hh' hl'
 obtain⟨C,hC⟩:=exq (cmpI V U)
 rw[<- hC]
 have HBL:=hid (show Below w.heap.size w ((w.alloc (.cells #[.int .i64 h,.int .u64 l] 100)).alloc (.cells #[.int .i64 h',.int .u64 l'] 100))from((Below.refl _ _).alloc (Nat.le_refl _) _).alloc (by simp) _)
 rcases Int.lt_trichotomy h h' with c1|c1|c1
 ·have hv:=k1 c1
  obtain rfl:C= -1:=by rw[hC];unfold cmpI;rw[if_pos hv]
  have hne:(h==h')=false:=by simp;omega
  have hne2:¬h=h':=by omega
  clear hC k1 k2 k3 k4 k5
  go_enter Tryz.func207,Tryz.ntmps207
  go_wp2
  go_ret
  exact⟨rfl,HBL.out⟩
 ·subst c1
  rcases Int.lt_trichotomy l l' with c2|c2|c2
  ·have hv:=k3 rfl c2
   obtain rfl:C= -1:=by rw[hC];unfold cmpI;rw[if_pos hv]
   have hne:(l==l')=false:=by simp;omega
   have hne2:¬l=l':=by omega
   clear hC k1 k2 k3 k4 k5
   go_enter Tryz.func207,Tryz.ntmps207
   go_wp2
   go_ret
   exact⟨rfl,HBL.out⟩
  ·subst c2
   have hv:=k5 rfl rfl
   obtain rfl:C=0:=by rw[hC];unfold cmpI;rw[if_neg (by omega),if_pos hv]
   clear hC k1 k2 k3 k4 k5
   go_enter Tryz.func207,Tryz.ntmps207
   go_wp2
   go_ret
   exact⟨rfl,HBL.out⟩
  ·have hv:=k4 rfl c2
   obtain rfl:C=1:=by rw[hC];unfold cmpI;rw[if_neg (by omega),if_neg (by omega)]
   have hne:(l==l')=false:=by simp;omega
   have hne2:¬l=l':=by omega
   have hnl:¬l<l':=by omega
   clear hC k1 k2 k3 k4 k5
   go_enter Tryz.func207,Tryz.ntmps207
   go_wp2
   go_ret
   exact⟨rfl,HBL.out⟩
 ·have hv:=k2 c1
  obtain rfl:C=1:=by rw[hC];unfold cmpI;rw[if_neg (by omega),if_neg (by omega)]
  have hne:(h==h')=false:=by simp;omega
  have hne2:¬h=h':=by omega
  have hnl:¬h<h':=by omega
  clear hC k1 k2 k3 k4 k5
  go_enter Tryz.func207,Tryz.ntmps207
  go_wp2
  go_ret
  exact⟨rfl,HBL.out⟩
theorem prod_sign(a b:Int):((decide (a<0) !=decide (b<0))=true->a*b= -(((a.natAbs*b.natAbs:Nat):Int)))∧((decide (a<0) !=decide (b<0))=false->a*b=((a.natAbs*b.natAbs:Nat):Int)):=by
 rw[Int.natCast_mul]
 rcases Int.lt_or_le a 0 with h1|h1<;>rcases Int.lt_or_le b 0 with h2|h2
 ·have e1:((a.natAbs:Nat):Int)= -a:=by omega
  have e2:((b.natAbs:Nat):Int)= -b:=by omega
  rw[e1,e2]
  simp[h1,h2]
  try grind
 ·have e1:((a.natAbs:Nat):Int)= -a:=by omega
  have e2:((b.natAbs:Nat):Int)=b:=by omega
  rw[e1,e2]
  simp[h1,Int.not_lt.2 h2]
  try grind
 ·have e1:((a.natAbs:Nat):Int)=a:=by omega
  have e2:((b.natAbs:Nat):Int)= -b:=by omega
  rw[e1,e2]
  simp[Int.not_lt.2 h1,h2]
  try grind
 ·have e1:((a.natAbs:Nat):Int)=a:=by omega
  have e2:((b.natAbs:Nat):Int)=b:=by omega
  rw[e1,e2]
  simp[Int.not_lt.2 h1,Int.not_lt.2 h2]
theorem zIO(w:World)(a b:Int)(ha: -9223372036854775808<=a∧a<=9223372036854775807)(hb: -9223372036854775808<=b∧b<=9223372036854775807):
 Calls Tryz.prog 235 #[.int .i64 a,.int .i64 b] w fun e w'=>e=.returned (zCH (a*b))∧Below w.heap.size w w':=by
 obtain⟨s1,s2⟩:=prod_sign a b
 have HS1:=hid (fun X=>size_c X a ha)
 have HS2:=hid (fun X=>size_c X b hb)
 obtain⟨x,hx⟩:=exq (a.natAbs)
 obtain⟨y,hy⟩:=exq (b.natAbs)
 rw[<- hx,<- hy]at s1 s2
 rw[<- hx]at HS1
 rw[<- hy]at HS2
 have hx1:x<=9223372036854775808:=by omega
 have hy1:y<=9223372036854775808:=by omega
 have hp:x*y<=9223372036854775808*9223372036854775808:=Nat.mul_le_mul hx1 hy1
 have HM:=hid (fun X=>mul64_c x y (by omega) (by omega) X)
 obtain⟨P,hP⟩:=exq (x*y)
 rw[<- hP]at s1 s2 hp HM
 obtain⟨H,hH⟩:∃H:Int,H=((P/18446744073709551616:Nat):Int):=⟨_,rfl⟩
 obtain⟨Lo,hLo⟩:∃H:Int,H=((P%18446744073709551616:Nat):Int):=⟨_,rfl⟩
 rw[<- hH,<- hLo]at HM
 have h0:0<=H:=by omega
 have h1:H<=4611686018427387904:=by omega
 have l0:0<=Lo:=by omega
 have l1:Lo<18446744073709551616:=by omega
 have hw:IntKind.i64.wrap H=H:=IntWalk.i64_in _ (by omega)
 have heq:H*18446744073709551616+Lo=(P:Int):=by omega
 have HO:=hid (fun X=>opp_c X H Lo h0 h1 l0 l1)
 rw[heq]at HO
 have hwv:zCH (P:Int)=.agg #[.int .i64 H,.int .u64 Lo]:=by
  unfold zCH
  rw[show(P:Int)/18446744073709551616=H by omega,show(P:Int)%18446744073709551616=Lo by omega]
 by_cases ha0:a<0<;>by_cases hb0:b<0
 ·skip
  have hd1:decide (a<0)=true:=by simp[ha0]
  have hd2:decide (b<0)=true:=by simp[hb0]
  have e:=s2 (by simp[ha0,hb0])
  rw[e,hwv]
  clear s1 s2 hx hy hP hH hLo heq hwv e HO hp
  go_enter Tryz.func235,Tryz.ntmps235
  go_wp2_with (go_at_call 210;refine(HS1.out _).mono ?_;rintro e w1 ⟨rfl,rfl⟩;refine Stop.of ?_)
  refine Stop.go ?_
  go_wp2_with (go_at_call 210;refine(HS2.out _).mono ?_;rintro e w1 ⟨rfl,rfl⟩;refine Stop.of ?_)
  refine Stop.go ?_
  go_wp2_with (go_at_call 209;refine(HM.out _).mono ?_;rintro e w1 ⟨rfl,rfl⟩;refine Stop.of ?_)
  refine Stop.go ?_
  go_wp2
  simp[bodyPost,results,Tryz.results235,go_sem]
  exact((Below.refl _ _).alloc (Nat.le_refl _) _).alloc (by simp) _
 ·skip
  have hd1:decide (a<0)=true:=by simp[ha0]
  have hd2:decide (b<0)=false:=by simp[hb0]
  have e:=s1 (by simp[ha0,hb0])
  rw[e]
  obtain⟨R1,hR1⟩:=exq ((-(P:Int))/18446744073709551616)
  obtain⟨R2,hR2⟩:=exq ((-(P:Int))%18446744073709551616)
  have hwn:zCH (-(P:Int))=.agg #[.int .i64 R1,.int .u64 R2]:=by unfold zCH;rw[hR1,hR2]
  rw[hwn]at HO⊢
  clear s1 s2 hx hy hP hH hLo heq hwv e hp hR1 hR2 hwn
  go_enter Tryz.func235,Tryz.ntmps235
  go_wp2_with (go_at_call 210;refine(HS1.out _).mono ?_;rintro e w1 ⟨rfl,rfl⟩;refine Stop.of ?_)
  refine Stop.go ?_
  go_wp2_with (go_at_call 210;refine(HS2.out _).mono ?_;rintro e w1 ⟨rfl,rfl⟩;refine Stop.of ?_)
  refine Stop.go ?_
  go_wp2_with (go_at_call 209;refine(HM.out _).mono ?_;rintro e w1 ⟨rfl,rfl⟩;refine Stop.of ?_)
  refine Stop.go ?_
  go_wp2_with (go_at_call 149;refine(HO.out _).mono ?_;rintro e w2 ⟨rfl,hb2⟩;refine Stop.of ?_)
  refine Stop.go ?_
  have hba:Below w.heap.size w ((w.alloc (.cells #[.int .i64 0,.int .u64 0] 100)).alloc (.cells #[.int .i64 H,.int .u64 Lo] 100)):=((Below.refl _ _).alloc (Nat.le_refl _) _).alloc (by simp) _
  have hbx:=zAA hba hb2
  have c0:w2.cell? ⟨w.heap.size,0,none⟩=some (.int .i64 0):=((bcell hb2).1 w.heap.size 0 (by simp;omega)).trans (by rw[World.cell?_alloc_past _ _ _ (by simp),World.cell?_alloc_at _ _ _ _ rfl];rfl)
  have c1:w2.cell? ⟨w.heap.size,1,none⟩=some (.int .u64 0):=((bcell hb2).1 w.heap.size 1 (by simp;omega)).trans (by rw[World.cell?_alloc_past _ _ _ (by simp),World.cell?_alloc_at _ _ _ _ rfl];rfl)
  have hlt2:w.heap.size<w2.heap.size:=by have:=hb2.size;simp at this;omega
  have f0:w2.frozen? ⟨w.heap.size,0,none⟩=false:=((bcell hb2).2 w.heap.size 0 (by simp;omega)).trans (by simp[go_sem])
  have f1:w2.frozen? ⟨w.heap.size,1,none⟩=false:=((bcell hb2).2 w.heap.size 1 (by simp;omega)).trans (by simp[go_sem])
  go_wp2
  simp[bodyPost,results,Tryz.results235,go_sem,c0,c1,f0,f1,hlt2]
  exact zAC (zAC hbx (Nat.le_refl _) 0 _) (Nat.le_refl _) 1 _
 ·skip
  have hd1:decide (a<0)=false:=by simp[ha0]
  have hd2:decide (b<0)=true:=by simp[hb0]
  have e:=s1 (by simp[ha0,hb0])
  rw[e]
  obtain⟨R1,hR1⟩:=exq ((-(P:Int))/18446744073709551616)
  obtain⟨R2,hR2⟩:=exq ((-(P:Int))%18446744073709551616)
  have hwn:zCH (-(P:Int))=.agg #[.int .i64 R1,.int .u64 R2]:=by unfold zCH;rw[hR1,hR2]
  rw[hwn]at HO⊢
  clear s1 s2 hx hy hP hH hLo heq hwv e hp hR1 hR2 hwn
  go_enter Tryz.func235,Tryz.ntmps235
  go_wp2_with (go_at_call 210;refine(HS1.out _).mono ?_;rintro e w1 ⟨rfl,rfl⟩;refine Stop.of ?_)
  refine Stop.go ?_
  go_wp2_with (go_at_call 210;refine(HS2.out _).mono ?_;rintro e w1 ⟨rfl,rfl⟩;refine Stop.of ?_)
  refine Stop.go ?_
  go_wp2_with (go_at_call 209;refine(HM.out _).mono ?_;rintro e w1 ⟨rfl,rfl⟩;refine Stop.of ?_)
  refine Stop.go ?_
  go_wp2_with (go_at_call 149;refine(HO.out _).mono ?_;rintro e w2 ⟨rfl,hb2⟩;refine Stop.of ?_)
  refine Stop.go ?_
  have hba:Below w.heap.size w ((w.alloc (.cells #[.int .i64 0,.int .u64 0] 100)).alloc (.cells #[.int .i64 H,.int .u64 Lo] 100)):=((Below.refl _ _).alloc (Nat.le_refl _) _).alloc (by simp) _
  have hbx:=zAA hba hb2
  have c0:w2.cell? ⟨w.heap.size,0,none⟩=some (.int .i64 0):=((bcell hb2).1 w.heap.size 0 (by simp;omega)).trans (by rw[World.cell?_alloc_past _ _ _ (by simp),World.cell?_alloc_at _ _ _ _ rfl];rfl)
  have c1:w2.cell? ⟨w.heap.size,1,none⟩=some (.int .u64 0):=((bcell hb2).1 w.heap.size 1 (by simp;omega)).trans (by rw[World.cell?_alloc_past _ _ _ (by simp),World.cell?_alloc_at _ _ _ _ rfl];rfl)
  have hlt2:w.heap.size<w2.heap.size:=by have:=hb2.size;simp at this;omega
  have f0:w2.frozen? ⟨w.heap.size,0,none⟩=false:=((bcell hb2).2 w.heap.size 0 (by simp;omega)).trans (by simp[go_sem])
  have f1:w2.frozen? ⟨w.heap.size,1,none⟩=false:=((bcell hb2).2 w.heap.size 1 (by simp;omega)).trans (by simp[go_sem])
  go_wp2
  simp[bodyPost,results,Tryz.results235,go_sem,c0,c1,f0,f1,hlt2]
  exact zAC (zAC hbx (Nat.le_refl _) 0 _) (Nat.le_refl _) 1 _
 ·skip
  have hd1:decide (a<0)=false:=by simp[ha0]
  have hd2:decide (b<0)=false:=by simp[hb0]
  have e:=s2 (by simp[ha0,hb0])
  rw[e,hwv]
  clear s1 s2 hx hy hP hH hLo heq hwv e HO hp
  go_enter Tryz.func235,Tryz.ntmps235
  go_wp2_with (go_at_call 210;refine(HS1.out _).mono ?_;rintro e w1 ⟨rfl,rfl⟩;refine Stop.of ?_)
  refine Stop.go ?_
  go_wp2_with (go_at_call 210;refine(HS2.out _).mono ?_;rintro e w1 ⟨rfl,rfl⟩;refine Stop.of ?_)
  refine Stop.go ?_
  go_wp2_with (go_at_call 209;refine(HM.out _).mono ?_;rintro e w1 ⟨rfl,rfl⟩;refine Stop.of ?_)
  refine Stop.go ?_
  go_wp2
  simp[bodyPost,results,Tryz.results235,go_sem]
  exact((Below.refl _ _).alloc (Nat.le_refl _) _).alloc (by simp) _
end
section
open Go.RowKit
def dF(d:Int):Int:=if d<1 then 1 else d
def cmpR(an ad bn bd:Int):Int:=cmpI (an*dF bd) (bn*dF ad)
def F64(n:Int):Prop:= -9223372036854775808<=n∧n<=9223372036854775807
theorem fcompare_c(w:World)(an ad bn bd:Int)(h1:F64 an)(h2:F64 ad)(h3:F64 bn)(h4:F64 bd):
 Calls Tryz.prog 198 #[.agg #[.int .i64 an,.int .i64 ad],.agg #[.int .i64 bn,.int .i64 bd]] w fun e w'=>e=.returned (.int .i64 (cmpR an ad bn bd))∧Below w.heap.size w w':=by
 obtain⟨h1a,h1b⟩:=h1
 obtain⟨h2a,h2b⟩:=h2
 obtain⟨h3a,h3b⟩:=h3
 obtain⟨h4a,h4b⟩:=h4
 unfold cmpR dF
 by_cases c1:ad<1<;>by_cases c2:bd<1
 ·rw[if_pos c1,if_pos c2]
  obtain⟨C,hC⟩:=exq (cmpI (an*1) (bn*1))
  rw[<- hC]
  have HCC:=hid hC
  obtain⟨wz,hwz⟩:=exq ((w.alloc (.cells #[.int .i64 an,.int .i64 1] 29)).alloc (.cells #[.int .i64 bn,.int .i64 1] 29))
  have hbz:Below w.heap.size w wz:=by rw[hwz];exact((Below.refl _ _).alloc (Nat.le_refl _) _).alloc (by simp) _
  have hsz:wz.heap.size=w.heap.size+2:=by rw[hwz];simp
  have l0:=zBB (W:=wz) (b:=w.heap.size) (o:=0) (by omega) (show wz.cell? ⟨w.heap.size,0,none⟩=some (.int .i64 an)by rw[hwz,World.cell?_alloc_past _ _ _ (by simp),World.cell?_alloc_at _ _ _ _ rfl];rfl)
  have l1:=zBB (W:=wz) (b:=w.heap.size) (o:=1) (by omega) (show wz.cell? ⟨w.heap.size,1,none⟩=some (.int .i64 1)by rw[hwz,World.cell?_alloc_past _ _ _ (by simp),World.cell?_alloc_at _ _ _ _ rfl];rfl)
  have l2:=zBB (W:=wz) (b:=w.heap.size+1) (o:=0) (by omega) (show wz.cell? ⟨w.heap.size+1,0,none⟩=some (.int .i64 bn)by rw[hwz,World.cell?_alloc_at _ _ _ _ (by simp)];rfl)
  have l3:=zBB (W:=wz) (b:=w.heap.size+1) (o:=1) (by omega) (show wz.cell? ⟨w.heap.size+1,1,none⟩=some (.int .i64 1)by rw[hwz,World.cell?_alloc_at _ _ _ _ (by simp)];rfl)
  have HWZ:=hid hwz
  have HBZ:=hid hbz
  clear hC hwz hbz hsz
  go_enter Tryz.func198,Tryz.ntmps198
  go_wp2
  rw[<- HWZ.out]
  refine zDC (by kernel_rfl) (by kernel_rfl) ?_
  repeat (go_big_quiet_step (first
   | (go_at_call 235;exact zCF (zIO _ _ _ (by omega) (by omega)))
   | (go_at_call 207;exact zCF (zDU _ _ _))))
  refine wpQuiet_nil ?_
  rintro _ ⟨X,rfl⟩
  have hfin:=zAA HBZ.out (zCV wz X)
  go_wp2
  go_ret
  exact⟨zCZ (by rw[HCC.out];try simp),hfin⟩
 ·rw[if_pos c1,if_neg c2]
  obtain⟨C,hC⟩:=exq (cmpI (an*bd) (bn*1))
  rw[<- hC]
  have HCC:=hid hC
  obtain⟨wz,hwz⟩:=exq ((w.alloc (.cells #[.int .i64 an,.int .i64 1] 29)).alloc (.cells #[.int .i64 bn,.int .i64 bd] 29))
  have hbz:Below w.heap.size w wz:=by rw[hwz];exact((Below.refl _ _).alloc (Nat.le_refl _) _).alloc (by simp) _
  have hsz:wz.heap.size=w.heap.size+2:=by rw[hwz];simp
  have l0:=zBB (W:=wz) (b:=w.heap.size) (o:=0) (by omega) (show wz.cell? ⟨w.heap.size,0,none⟩=some (.int .i64 an)by rw[hwz,World.cell?_alloc_past _ _ _ (by simp),World.cell?_alloc_at _ _ _ _ rfl];rfl)
  have l1:=zBB (W:=wz) (b:=w.heap.size) (o:=1) (by omega) (show wz.cell? ⟨w.heap.size,1,none⟩=some (.int .i64 1)by rw[hwz,World.cell?_alloc_past _ _ _ (by simp),World.cell?_alloc_at _ _ _ _ rfl];rfl)
  have l2:=zBB (W:=wz) (b:=w.heap.size+1) (o:=0) (by omega) (show wz.cell? ⟨w.heap.size+1,0,none⟩=some (.int .i64 bn)by rw[hwz,World.cell?_alloc_at _ _ _ _ (by simp)];rfl)
  have l3:=zBB (W:=wz) (b:=w.heap.size+1) (o:=1) (by omega) (show wz.cell? ⟨w.heap.size+1,1,none⟩=some (.int .i64 bd)by rw[hwz,World.cell?_alloc_at _ _ _ _ (by simp)];rfl)
  have HWZ:=hid hwz
  have HBZ:=hid hbz
  clear hC hwz hbz hsz
  go_enter Tryz.func198,Tryz.ntmps198
  go_wp2
  rw[<- HWZ.out]
  refine zDC (by kernel_rfl) (by kernel_rfl) ?_
  repeat (go_big_quiet_step (first
   | (go_at_call 235;exact zCF (zIO _ _ _ (by omega) (by omega)))
   | (go_at_call 207;exact zCF (zDU _ _ _))))
  refine wpQuiet_nil ?_
  rintro _ ⟨X,rfl⟩
  have hfin:=zAA HBZ.out (zCV wz X)
  go_wp2
  go_ret
  exact⟨zCZ (by rw[HCC.out];try simp),hfin⟩
 ·rw[if_neg c1,if_pos c2]
  obtain⟨C,hC⟩:=exq (cmpI (an*1) (bn*ad))
  rw[<- hC]
  have HCC:=hid hC
  obtain⟨wz,hwz⟩:=exq ((w.alloc (.cells #[.int .i64 an,.int .i64 ad] 29)).alloc (.cells #[.int .i64 bn,.int .i64 1] 29))
  have hbz:Below w.heap.size w wz:=by rw[hwz];exact((Below.refl _ _).alloc (Nat.le_refl _) _).alloc (by simp) _
  have hsz:wz.heap.size=w.heap.size+2:=by rw[hwz];simp
  have l0:=zBB (W:=wz) (b:=w.heap.size) (o:=0) (by omega) (show wz.cell? ⟨w.heap.size,0,none⟩=some (.int .i64 an)by rw[hwz,World.cell?_alloc_past _ _ _ (by simp),World.cell?_alloc_at _ _ _ _ rfl];rfl)
  have l1:=zBB (W:=wz) (b:=w.heap.size) (o:=1) (by omega) (show wz.cell? ⟨w.heap.size,1,none⟩=some (.int .i64 ad)by rw[hwz,World.cell?_alloc_past _ _ _ (by simp),World.cell?_alloc_at _ _ _ _ rfl];rfl)
  have l2:=zBB (W:=wz) (b:=w.heap.size+1) (o:=0) (by omega) (show wz.cell? ⟨w.heap.size+1,0,none⟩=some (.int .i64 bn)by rw[hwz,World.cell?_alloc_at _ _ _ _ (by simp)];rfl)
  have l3:=zBB (W:=wz) (b:=w.heap.size+1) (o:=1) (by omega) (show wz.cell? ⟨w.heap.size+1,1,none⟩=some (.int .i64 1)by rw[hwz,World.cell?_alloc_at _ _ _ _ (by simp)];rfl)
  have HWZ:=hid hwz
  have HBZ:=hid hbz
  clear hC hwz hbz hsz
  go_enter Tryz.func198,Tryz.ntmps198
  go_wp2
  rw[<- HWZ.out]
  refine zDC (by kernel_rfl) (by kernel_rfl) ?_
  repeat (go_big_quiet_step (first
   | (go_at_call 235;exact zCF (zIO _ _ _ (by omega) (by omega)))
   | (go_at_call 207;exact zCF (zDU _ _ _))))
  refine wpQuiet_nil ?_
  rintro _ ⟨X,rfl⟩
  have hfin:=zAA HBZ.out (zCV wz X)
  go_wp2
  go_ret
  exact⟨zCZ (by rw[HCC.out];try simp),hfin⟩
 ·rw[if_neg c1,if_neg c2]
  obtain⟨C,hC⟩:=exq (cmpI (an*bd) (bn*ad))
  rw[<- hC]
  have HCC:=hid hC
  obtain⟨wz,hwz⟩:=exq ((w.alloc (.cells #[.int .i64 an,.int .i64 ad] 29)).alloc (.cells #[.int .i64 bn,.int .i64 bd] 29))
  have hbz:Below w.heap.size w wz:=by rw[hwz];exact((Below.refl _ _).alloc (Nat.le_refl _) _).alloc (by simp) _
  have hsz:wz.heap.size=w.heap.size+2:=by rw[hwz];simp
  have l0:=zBB (W:=wz) (b:=w.heap.size) (o:=0) (by omega) (show wz.cell? ⟨w.heap.size,0,none⟩=some (.int .i64 an)by rw[hwz,World.cell?_alloc_past _ _ _ (by simp),World.cell?_alloc_at _ _ _ _ rfl];rfl)
  have l1:=zBB (W:=wz) (b:=w.heap.size) (o:=1) (by omega) (show wz.cell? ⟨w.heap.size,1,none⟩=some (.int .i64 ad)by rw[hwz,World.cell?_alloc_past _ _ _ (by simp),World.cell?_alloc_at _ _ _ _ rfl];rfl)
  have l2:=zBB (W:=wz) (b:=w.heap.size+1) (o:=0) (by omega) (show wz.cell? ⟨w.heap.size+1,0,none⟩=some (.int .i64 bn)by rw[hwz,World.cell?_alloc_at _ _ _ _ (by simp)];rfl)
  have l3:=zBB (W:=wz) (b:=w.heap.size+1) (o:=1) (by omega) (show wz.cell? ⟨w.heap.size+1,1,none⟩=some (.int .i64 bd)by rw[hwz,World.cell?_alloc_at _ _ _ _ (by simp)];rfl)
  have HWZ:=hid hwz
  have HBZ:=hid hbz
  clear hC hwz hbz hsz
  go_enter Tryz.func198,Tryz.ntmps198
  go_wp2
  rw[<- HWZ.out]
  refine zDC (by kernel_rfl) (by kernel_rfl) ?_
  repeat (go_big_quiet_step (first
   | (go_at_call 235;exact zCF (zIO _ _ _ (by omega) (by omega)))
   | (go_at_call 207;exact zCF (zDU _ _ _))))
  refine wpQuiet_nil ?_
  rintro _ ⟨X,rfl⟩
  have hfin:=zAA HBZ.out (zCV wz X)
  go_wp2
  go_ret
  exact⟨zCZ (by rw[HCC.out];try simp),hfin⟩
theorem zJW(w:World)(an ad bn bd:Int)(h1:F64 an)(h2:F64 ad)(h3:F64 bn)(h4:F64 bd):
 Calls Tryz.prog 136 #[.agg #[.int .i64 an,.int .i64 ad],.agg #[.int .i64 bn,.int .i64 bd]] w fun e w'=>e=.returned (.int .i64 (cmpR an ad bn bd))∧Below w.heap.size w w':=by
 have HC:=hid (fun X=>fcompare_c X an ad bn bd h1 h2 h3 h4)
 obtain⟨C,hC⟩:=exq (cmpR an ad bn bd)
 rw[<- hC]at HC⊢
 have HBL:=hid (show Below w.heap.size w ((w.alloc (.cells #[.int .i64 an,.int .i64 ad] 29)).alloc (.cells #[.int .i64 bn,.int .i64 bd] 29))from((Below.refl _ _).alloc (Nat.le_refl _) _).alloc (by simp) _)
 clear hC
 go_enter Tryz.func136,Tryz.ntmps136
 go_wp2_with (go_at_call 198;refine(HC.out _).mono ?_;rintro e w1 ⟨rfl,hb1⟩)
 go_ret
 exact⟨rfl,zAA HBL.out hb1⟩
theorem down_facts{n d:Int}(hd:1<=d):(n.tmod d<0->n.tdiv d-1=n/d∧n.tmod d+d=n%d)∧(¬n.tmod d<0->n.tdiv d=n/d∧n.tmod d=n%d)∧ -d<n.tmod d∧n.tmod d<d:=by
 have e:=Int.mul_tdiv_add_tmod n d
 have b1:n.tmod d<d:=Int.tmod_lt_of_pos n (by omega)
 have b2: -d<n.tmod d:=by
  have:=Int.lt_tmod_of_pos n (show 0<d by omega)
  omega
 refine⟨fun h=>?_,fun h=>?_,b2,b1⟩
 ·have:=(Int.ediv_emod_unique (a:=n) (b:=d) (r:=n.tmod d+d) (q:=n.tdiv d-1) (by omega)).2 ⟨by rw[Int.mul_sub];omega,by omega,by omega⟩
  exact⟨this.1.symm,this.2.symm⟩
 ·have:=(Int.ediv_emod_unique (a:=n) (b:=d) (r:=n.tmod d) (q:=n.tdiv d) (by omega)).2 ⟨by omega,by omega,by omega⟩
  exact⟨this.1.symm,this.2.symm⟩
theorem down_c(w:World)(n d:Int)(hn:F64 n)(hd:1<=d∧d<=9223372036854775807):
 Calls Tryz.prog 92 #[.int .i64 n,.int .i64 d] w fun e w'=>e=.returned (.tuple #[.int .i64 (n/d),.int .i64 (n%d)])∧∃k,w'=w.drewN k:=by
 obtain⟨f1,f2,f3,f4⟩:=down_facts (n:=n) hd.1
 obtain⟨hna,hnb⟩:=hn
 obtain⟨hd1,hd2⟩:=hd
 have hq:(n.tdiv d).natAbs<=n.natAbs:=by rw[Int.natAbs_tdiv];exact Nat.div_le_self _ _
 have hq3:n.tdiv d<=9223372036854775807:=by
  rcases Int.lt_or_le n 0 with h|h
  ·have e:n.tdiv d= -((-n).tdiv d):=by rw[Int.neg_tdiv];omega
   have:=Int.tdiv_nonneg (show 0<= -n by omega) (show 0<=d by omega)
   omega
  ·omega
 have hq2:n.tmod d<0-> -9223372036854775808<n.tdiv d:=fun h=>by
  have:=(f1 h)
  have e:=Int.mul_ediv_add_emod n d
  rcases Int.lt_or_le (-9223372036854775808) (n.tdiv d)with h5|h5
  ·exact h5
  ·exfalso
   have h6:n.tdiv d= -9223372036854775808:=by omega
   have h7:n= -9223372036854775808:=by omega
   have h8:=Int.mul_tdiv_add_tmod n d
   rw[h6]at h8
   have h9:d* -9223372036854775808<= -9223372036854775808:=by omega
   omega
 obtain⟨Q,hQ⟩:=exq (n/d)
 obtain⟨R,hR⟩:=exq (n%d)
 obtain⟨q,hq0⟩:=exq (n.tdiv d)
 obtain⟨r,hr0⟩:=exq (n.tmod d)
 rw[<- hQ,<- hR]at f1 f2
 rw[<- hq0,<- hr0]at f1 f2 hq2
 rw[<- hr0]at f3 f4
 rw[<- hq0]at hq hq3
 rw[<- hQ,<- hR]
 have w1:IntKind.i64.wrap (n.tdiv d)=q:=by rw[<- hq0];exact IntWalk.i64_in _ (by omega)
 have w2:n.tmod d=r:=hr0.symm
 have hdz:¬(d=0):=by omega
 clear hQ hR hq0 hr0
 by_cases h:r<0
 ·obtain⟨g1,g2⟩:=f1 h
  have g3:=hq2 h
  have w3:IntKind.i64.wrap (q-1)=Q:=by rw[g1];exact IntWalk.i64_in _ (by omega)
  have w4:IntKind.i64.wrap (r+d)=R:=by rw[g2];exact IntWalk.i64_in _ (by omega)
  clear f1 f2 hq2 g1 g2
  go_enter Tryz.func92,Tryz.ntmps92
  go_wp2
  go_quiet (fail)
  go_wp2
  go_ret2
  exact⟨rfl,_,rfl⟩
 ·obtain⟨g1,g2⟩:=f2 h
  subst g1
  subst g2
  clear f1 f2 hq2
  go_enter Tryz.func92,Tryz.ntmps92
  go_wp2
  go_quiet (fail)
  go_wp2
  go_ret2
  exact⟨rfl,_,rfl⟩
end
end
end Go.Proofs.YtlffndehhhpgjaaGreat
