/- Walks and plain laws for DualValuesRow, part 11. -/
import Derived.Lib.AppendZeros
import Derived.Deep.CutRange
import Derived.Test.YtlffndehhhpgjaaGreatPkDualValuesRow10
namespace Go.Proofs.YtlffndehhhpgjaaGreat
set_option linter.unusedVariables false
set_option linter.unusedSimpArgs false
set_option maxRecDepth 100000
set_option maxHeartbeats 4000000
section
open Go.RowKit
theorem zHI:(Tryz.prog.info? 73).map (fun i=>(i.zero,i.size,i.bytes))=some (some (.agg #[.slice none 0 0,.slice none 0 0]),2,48):=by kernel_rfl
def zJY(W:World)(base:Nat)(v:Value)(T:List FitT):Prop:=
 ∃xs,W.ownsRow base 73 2 v T.length xs∧∀j (hj:j<T.length),∃us ur,xs[j*2]? =some us∧xs[j*2+1]? =some ur∧zGC 3 W base (fun _=>True) us T[j].1∧zEA W base ur T[j].2
theorem zJY.nil(W:World)(base:Nat):zJY W base (.slice none 0 0) []:=⟨[],World.ownsRow_nil _ _ _ _,fun j hj=>by simp at hj⟩
theorem zJY.below{W W':World}{base:Nat}{v:Value}{T:List FitT}(h:zJY W base v T)(hb:Below W.heap.size W W'):zJY W' base v T:=by
 obtain⟨xs,ho,he⟩:=h
 refine⟨xs,zBI ho hb,fun j hj=>?_⟩
 obtain⟨us,ur,h1,h2,h3,h4⟩:=he j hj
 exact⟨us,ur,h1,h2,h3.keep (Keep.of_below hb:Keep (fun _=>True) _ _) (fun _ _ _ _=>trivial),h4.below hb⟩
def zEC(w:World)(a:Option Addr)(T:List FitT):Prop:=
 ∀j (hj:j<T.length),∃b off pa pn pc va vn vc,a=some ⟨b,off,none⟩∧b<w.heap.size∧w.cell? ⟨b,off+j*2,none⟩=some (.slice pa pn pc)∧w.cell? ⟨b,off+j*2+1,none⟩=some (.slice va vn vc)∧
  T[j].1.length=pn∧pn<=maxLen∧zAI w pa T[j].1∧T[j].2.length=vn∧vn<=maxLen∧zCD w va T[j].2
theorem zEC.below{w w':World}{a:Option Addr}{T:List FitT}(h:zEC w a T)(hb:Below w.heap.size w w'):zEC w' a T:=by
 intro j hj
 obtain⟨b,off,pa,pn,pc,va,vn,vc,e,hlt,h0,h1,h2,h3,h4,h5,h6,h7⟩:=h j hj
 exact⟨b,off,pa,pn,pc,va,vn,vc,e,Nat.lt_of_lt_of_le hlt hb.size,(hb.cell (p:=⟨b,_,none⟩) hlt).trans h0,(hb.cell (p:=⟨b,_,none⟩) hlt).trans h1,h2,h3,h4.below hb,h5,h6,h7.below hb⟩
theorem zJY.reads{W:World}{base:Nat}{v:Value}{T:List FitT}(h:zJY W base v T):∃a cap,v=.slice a T.length cap∧T.length<=maxLen∧zEC W a T:=by
 obtain⟨xs,ho,he⟩:=h
 rcases ho.2 with⟨rfl,h0⟩|⟨g,cap,cur,rfl,hbg,hgg,hnc,hcm,hsz,htk⟩
 ·exact⟨none,0,by rw[h0],by rw[h0];decide,fun j hj=>by omega⟩
 ·refine⟨_,cap,rfl,by omega,fun j hj=>?_⟩
  obtain⟨us,ur,h1,h2,h3,h4⟩:=he j hj
  have hc:∀i,i<T.length*2->W.cell? ⟨g,i,none⟩=xs[i]? :=fun i hi=>
   World.ownsRow.cellAt (w:=W) (base:=base) (e:=73) (size:=2) (g:=g) (n:=T.length) (cap:=cap) (xs:=xs) ⟨ho.1,.inr ⟨g,cap,cur,rfl,hbg,hgg,hnc,hcm,hsz,htk⟩⟩ i hi
  obtain⟨sa,sn,sc,rfl,_⟩:=id h3
  obtain⟨ra,rn,rc,rfl,_⟩:=id h4
  obtain⟨k1,k2,k3⟩:=h3.ints
  obtain⟨m1,m2,m3⟩:=h4.rats
  exact⟨g,0,sa,sn,sc,ra,rn,rc,rfl,(Array.getElem?_eq_some_iff.1 hgg).1,by rw[Nat.zero_add,hc _ (by omega)];exact h1,by rw[Nat.zero_add,hc _ (by omega)];exact h2,k1,k2,k3,m1,m2,m3⟩
theorem zJY.snoc{W w1 w2:World}{base:Nat}{v v' us ur:Value}{T:List FitT}{t:FitT}{xs:List Value}
 (ho:W.ownsRow base 73 2 v T.length xs)(he:∀j (hj:j<T.length),∃us ur,xs[j*2]? =some us∧xs[j*2+1]? =some ur∧zGC 3 W base (fun _=>True) us T[j].1∧zEA W base ur T[j].2)
 (h1:zGC 3 W base (fun _=>True) us t.1)(h2:zEA W base ur t.2)
 (hW1:Below W.heap.size W w1)(hg:w1.grownBy w2 v.ownBlock)(ho':w2.ownsRow base 73 2 v' (T.length+1) (xs++[us,ur])):zJY w2 base v' (T++[t]):=by
 have hlen:xs.length=T.length*2:=ho.1
 have hgb:∀(E:TypeId),E≠73->∀b,(b<base∨∃c f,W.heap[b]? =some (.cells c E f))->b<W.heap.size->w2.heap[b]? =W.heap[b]? :=by
  intro E hE b hty hb
  refine(hg.block b (Nat.lt_of_lt_of_le hb hW1.size) ?_).trans (hW1.block b hb)
  rcases ho.2 with⟨rfl,_⟩|⟨g,cap,cur,rfl,hbg,hgg,_⟩
  ·simp[Value.ownBlock]
  ·intro e
   obtain rfl:b=g:=by simpa[Value.ownBlock]using e
   rcases hty with h|⟨c,f,h⟩
   ·omega
   ·rw[h]at hgg;cases hgg;exact hE rfl
 have hel:∀u l,zGC 3 W base (fun _=>True) u l->zGC 3 w2 base (fun _=>True) u l:=by
  intro u l h
  refine h.keep (T:=fun b=>b<W.heap.size∧(b<base∨∃c f,W.heap[b]? =some (.cells c 3 f))) ⟨hg.os.trans hW1.os,hg.tape.trans hW1.tape,hg.output.trans hW1.output,Nat.le_trans hW1.size hg.size,fun k hk hT=>hgb 3 (by decide) k hT.2 hk⟩ fun b _ hb hty=>⟨hb,hty⟩
 have heq:∀u l,zEA W base u l->zEA w2 base u l:=by
  intro u l h
  refine h.keep (T:=fun b=>b<W.heap.size∧(b<base∨∃c f,W.heap[b]? =some (.cells c 29 f))) ⟨hg.os.trans hW1.os,hg.tape.trans hW1.tape,hg.output.trans hW1.output,Nat.le_trans hW1.size hg.size,fun k hk hT=>hgb 29 (by decide) k hT.2 hk⟩ fun b hb hty=>⟨hb,hty⟩
 refine⟨xs++[us,ur],by rw[List.length_append];exact ho',fun j hj=>?_⟩
 by_cases e:j<T.length
 ·obtain⟨us',ur',k1,k2,k3,k4⟩:=he j e
  refine⟨us',ur',by rw[List.getElem?_append_left (by omega)];exact k1,by rw[List.getElem?_append_left (by omega)];exact k2,?_,?_⟩
  ·rw[List.getElem_append_left e];exact hel _ _ k3
  ·rw[List.getElem_append_left e];exact heq _ _ k4
 ·have:j=T.length:=by simp at hj;omega
  subst this
  refine⟨us,ur,by rw[List.getElem?_append_right (by omega),hlen];simp,by rw[List.getElem?_append_right (by omega),hlen,show T.length*2+1-T.length*2=1 by omega];rfl,?_,?_⟩
  ·simp only[List.getElem_append_right (Nat.le_refl _),Nat.sub_self,List.getElem_cons_zero];exact hel _ _ h1
  ·simp only[List.getElem_append_right (Nat.le_refl _),Nat.sub_self,List.getElem_cons_zero];exact heq _ _ h2
def allF(M:Mask)(y:List Int):List FitT:=(allS (zAE M)).filterMap (fitF M y)
theorem zMY{α β:Type}(f:α->Option β)(l:List α){k:Nat}(hk:k<l.length):(l.take (k+1)).filterMap f=(l.take k).filterMap f++(f l[k]).toList:=by
 rw[List.take_succ_eq_append_getElem hk,List.filterMap_append]
 first
  |done
  | (congr 1;first|done| (cases h:f l[k]<;>simp[h]))
theorem r4All_c(w:World)(a a2:Option Addr)(n cap n2 cap2:Nat)(M:Mask)(y:List Int)(hn:M.length=n)(hn2:y.length=n2)(hm:n<=maxLen)(hm2:n2<=maxLen)(H:zAM w a M)(H2:zAI w a2 y)(hM:okM M=true):
 Calls Tryz.prog 157 #[.slice a n cap,.slice a2 n2 cap2] w fun e w'=>∃v base,e=.returned v∧w.heap.size<=base∧zJY w' base v (allF M y)∧Below w.heap.size w w':=by
 obtain⟨_,h1,h6,hc1,hc10⟩:=zCW hM
 obtain⟨b,off,ra,rc,rfl,hb,hc⟩:=zDV H (by omega)
 have i0:(0:Int)<(n:Int):=by omega
 have HFT:=hid (fun(X:World) (hX:Below w.heap.size w X) (sa:Option Addr) (sn sc:Nat) (S:List Int) (hs:S.length=sn) (hsm:sn<=1000) (hi:zAI X sa S)=>r4fit_c X (some ⟨b,off,none⟩) a2 sa n cap n2 cap2 sn sc M y S hn hn2 hs hm hm2 hsm (H.below hX) (H2.below hX) hi)
 have HST:=hid (r3sets_c w (zAE M) hc10)
 have HSL:=hid (fun(s:List Int) (hs:s∈allS (zAE M))=>(zPG hs).1)
 have HSC:=hid (allS_le hc10)
 have HAF:=hid (show allF M y=(allS (zAE M)).filterMap (fitF M y)from rfl)
 obtain⟨R,hR⟩:=exq (allF M y)
 obtain⟨SS,hSS⟩:=exq (allS (zAE M))
 obtain⟨W,hW⟩:=exq (zAE M)
 rw[<- hSS]at HST HSL HSC HAF
 rw[<- hR]at HAF⊢
 rw[<- hW]at HST HSL hc hc10
 clear hn hn2 hm hm2 H H2 hM h1 h6 hc1 hR hSS hW
 go_enter Tryz.func157,Tryz.ntmps157
 go_wp2_with (go_at_call 182;refine HST.out.mono ?_;rintro e w1 ⟨v1,rfl,hT,hb1⟩;refine Stop.of ?_)
 refine Stop.go ?_
 obtain⟨vs,hvo,_⟩:=id hT
 obtain⟨ta,tc,rfl⟩:=zAC hvo
 have hTR:=hT.rows rfl (fun r hr=>by have:=HSL.out r hr;unfold maxLen;omega)
 have HTR:=hid hTR
 have HB1:=hid hb1
 have hsc:=HSC.out
 clear hT hvo hTR hb1 hc hb HST
 go_wp2
 go_loopw [5,16] (fun v i wr=>∃k:Nat,k<=SS.length∧i=.int .i64 k∧zJY wr w1.heap.size v ((SS.take k).filterMap (fitF M y))∧Below w1.heap.size w1 wr) (fun _ i _=>SS.length-(intOf i).toNat)
 case atStart=>exact⟨0,Nat.zero_le _,rfl,zJY.nil _ _,Below.refl _ _⟩
 case round=>
  obtain⟨k,hk,rfl,ho,hbk⟩:=hrel
  by_cases hlt:k<SS.length
  ·obtain⟨sb,so,sa,sn,sc,rfl,hsb,hsc',hsn,hsm,hsi⟩:=(HTR.out.below hbk) k hlt
   have hft:=zMY (fitF M y) SS hlt
   have hsn10:sn<=1000:=by have:=HSL.out _ (List.getElem_mem hlt);omega
   obtain⟨S,hS⟩:=exq (SS[k]'hlt)
   rw[<- hS]at hsn hsi hft
   have hfit:=HFT.out wr (zAA HB1.out hbk) sa sn sc S hsn hsn10 hsi
   have hcnt:((SS.take k).filterMap (fitF M y)).length<=20000:=by
    have h1:=List.length_filterMap_le (fitF M y) (SS.take k)
    rw[List.length_take]at h1;omega
   obtain⟨C,hC⟩:=exq ((SS.take k).filterMap (fitF M y))
   rw[<- hC]at ho hft hcnt
   have HFI:=hid hfit
   have HFT2:=hid hft
   have HO:=hid ho
   have HBK:=hid hbk
   have HCN:=hid hcnt
   have hki:(k:Int)<(SS.length:Int):=by omega
   have hki0:(0:Int)<=(k:Int):=by omega
   clear hfit hft ho hbk hcnt hS hC hsn hsm hsi
   go_wp2_with (go_at_call 116;refine HFI.out.mono ?_;rintro e w2 ⟨⟨hno,rfl⟩|⟨f,us,ur,hf,rfl,hu,hr⟩,hb2⟩<;>refine Stop.of ?_)
   ·refine Stop.go ?_
    have hft2:=HFT2.out
    rw[hno]at hft2
    simp only[Option.toList_none,List.append_nil]at hft2
    have HF2:=hid hft2
    have hba:∀o:Obj,Below wr.heap.size wr (w2.alloc o):=fun o=>hb2.alloc hb2.size o
    have HBA:=hid hba
    clear hno hft2 hba hb2
    go_wp2
    refine⟨⟨k+1,by omega,by go_num,?_,zAA HBK.out (HBA.out _)⟩,by simp[intOf];omega⟩
    rw[HF2.out];exact HO.out.below (HBA.out _)
   ·refine Stop.go ?_
    have hft2:=HFT2.out
    rw[hf]at hft2
    simp only[Option.toList_some]at hft2
    obtain⟨pa,pn,pc,rfl,_⟩:=id (hu 0)
    obtain⟨qa,qn,qc,rfl,_⟩:=id (hr 0)
    have hba:Below w2.heap.size w2 (w2.alloc (.cells #[.slice pa pn pc,.slice qa qn qc] 73)):=(Below.refl _ _).alloc (Nat.le_refl _) _
    have hFO:=HO.out.below (zAA hb2 hba)
    obtain⟨xs,hoo,hoe⟩:=hFO
    obtain⟨va,vc,rfl⟩:=zAC hoo
    have hEI:=(hu w1.heap.size).keep (Keep.of_below hba:Keep (fun _=>True) _ _) (fun _ _ _ _=>trivial)
    have hEQ:=(hr w1.heap.size).below hba
    have HF2:=hid hft2
    have HOO:=hid hoo
    have HOE:=hid hoe
    have HEI:=hid hEI
    have HEQ:=hid hEQ
    have hBW:=zAA HBK.out (zAA hb2 hba)
    have HBW:=hid hBW
    have hnw:=news2 (w2.alloc (.cells #[.slice pa pn pc,.slice qa qn qc] 73)) (.slice pa pn pc) (.slice qa qn qc) 73
    rw[World.size_alloc]at hnw
    have HNW:=hid hnw
    have M1:=hid (show C.length+1<=maxLen by have:=HCN.out;unfold maxLen;omega)
    have M2:=hid (show(C.length+1)*48<=140737488355328 by have:=HCN.out;omega)
    have M3:=hid (Nat.le_trans hBW.size (zBT _ (.cells #[.slice pa pn pc,.slice qa qn qc] 73)))
    have HONE:=hid (show ∀u∈[Value.slice pa pn pc,.slice qa qn qc],u.oneCell'=true from fun u hu=>by simp at hu;rcases hu with rfl|rfl<;>rfl)
    clear hf hft2 hba hoo hoe hEI hEQ hBW hnw hu hr hb2
    go_wp2_with (at_builtin;refine zAL _ rfl (.tmp 28) (.tmp 30) 87 rfl w1.heap.size 73 (.agg #[.slice none 0 0,.slice none 0 0]) 2 48 Tryz.underlying87 zHI rfl (by decide) (.slice va C.length vc) C.length xs rfl (HOO.out.alloc _) (some ⟨w2.heap.size+1,0,none⟩) 1 1 [.slice pa pn pc,.slice qa qn qc] rfl rfl zBS HNW.out HONE.out M1.out M2.out M3.out ?_;intro a9 c9 w9 own9 g9;refine Stop.of ?_)
    refine Stop.go ?_
    have hsn:=zJY.snoc (t:=f) HOO.out HOE.out HEI.out HEQ.out ((Below.refl _ _).alloc (Nat.le_refl _) _) g9 own9
    have hB9:Below w1.heap.size w1 w9:=(HBW.out.alloc HBW.out.size _).grown g9 M3.out (fun g hg=>(HOO.out.lt g hg).1)
    rw[<- HF2.out]at hsn
    have HSN:=hid hsn
    have HB9:=hid hB9
    clear hsn hB9 own9 g9
    go_wp2
    exact⟨⟨k+1,by omega,by go_num,HSN.out,HB9.out⟩,by simp[intOf];omega⟩
  ·obtain rfl:k=SS.length:=by omega
   rw[List.take_of_length_le (Nat.le_refl _),<- HAF.out]at ho
   have HO:=hid ho
   have HBK:=hid hbk
   clear ho hbk
   go_wp2
   go_ret
   exact⟨_,w1.heap.size,rfl,HB1.out.size,HO.out,zAA HB1.out HBK.out⟩
end
section
open Go.RowKit
def FitC(W:World)(S:Nat->Prop)(us ur:Value)(f:FitT):Prop:=
 ∃pa pn pc va vn vc,us=.slice pa pn pc∧ur=.slice va vn vc∧f.1.length=pn∧f.2.length=vn∧pn<=maxLen∧vn<=maxLen∧zAI W pa f.1∧zCD W va f.2∧
  (∀b o,pa=some ⟨b,o,none⟩->S b∧b<W.heap.size∧∃c z,W.heap[b]? =some (.cells c 3 z))∧(∀b o,va=some ⟨b,o,none⟩->S b∧b<W.heap.size∧∃c z,W.heap[b]? =some (.cells c 29 z))
theorem FitC.keep{W W':World}{S S' K:Nat->Prop}{us ur:Value}{f:FitT}(h:FitC W S us ur f)(hk:Keep K W W')(hS:∀b,S b->b<W.heap.size->(∃c T z,(T=3∨T=29)∧W.heap[b]? =some (.cells c T z))->K b∧S' b):FitC W' S' us ur f:=by
 obtain⟨pa,pn,pc,va,vn,vc,e1,e2,h1,h2,h3,h4,h5,h6,h7,h8⟩:=h
 have s7:∀b o,pa=some ⟨b,o,none⟩->K b∧S' b:=fun b o e=>by obtain⟨g1,g2,c,z,g3⟩:=h7 b o e;exact hS b g1 g2 ⟨c,_,z,.inl rfl,g3⟩
 have s8:∀b o,va=some ⟨b,o,none⟩->K b∧S' b:=fun b o e=>by obtain⟨g1,g2,c,z,g3⟩:=h8 b o e;exact hS b g1 g2 ⟨c,_,z,.inr rfl,g3⟩
 refine⟨pa,pn,pc,va,vn,vc,e1,e2,h1,h2,h3,h4,fun j hj=>?_,fun j hj=>?_,fun b o e=>?_,fun b o e=>?_⟩
 ·obtain⟨b,o,e,hlt,hc⟩:=h5 j hj
  exact⟨b,o,e,Nat.lt_of_lt_of_le hlt hk.size,hk.cell hc (s7 b o e).1⟩
 ·obtain⟨b,o,e,hlt,hc,hd⟩:=h6 j hj
  exact⟨b,o,e,Nat.lt_of_lt_of_le hlt hk.size,hk.cell hc (s8 b o e).1,hk.cell hd (s8 b o e).1⟩
 ·obtain⟨g1,g2,c,z,g3⟩:=h7 b o e
  exact⟨(s7 b o e).2,Nat.lt_of_lt_of_le g2 hk.size,c,z,(hk.block b g2 (s7 b o e).1).trans g3⟩
 ·obtain⟨g1,g2,c,z,g3⟩:=h8 b o e
  exact⟨(s8 b o e).2,Nat.lt_of_lt_of_le g2 hk.size,c,z,(hk.block b g2 (s8 b o e).1).trans g3⟩
def zCM(W:World)(base:Nat)(S:Nat->Prop)(v:Value)(T:List FitT):Prop:=
 ∃xs,W.ownsRow base 73 2 v T.length xs∧(∀k,v.ownBlock=some k->S k)∧∀j (hj:j<T.length),∃us ur,xs[j*2]? =some us∧xs[j*2+1]? =some ur∧FitC W S us ur T[j]
theorem zCM.nil(W:World)(base:Nat)(S:Nat->Prop):zCM W base S (.slice none 0 0) []:=⟨[],World.ownsRow_nil _ _ _ _,fun k hk=>by simp[Value.ownBlock]at hk,fun j hj=>by simp at hj⟩
theorem zCM.slice{W:World}{base:Nat}{S:Nat->Prop}{v:Value}{T:List FitT}(h:zCM W base S v T):∃a c,v=.slice a T.length c:=by
 obtain⟨xs,ho,_⟩:=h;exact zAC ho
theorem zCM.keep{W W':World}{base:Nat}{S S' K:Nat->Prop}{v:Value}{T:List FitT}(h:zCM W base S v T)(hk:Keep K W W')(hS:∀b,S b->b<W.heap.size->K b∧S' b):zCM W' base S' v T:=by
 obtain⟨xs,ho,hg,he⟩:=h
 refine⟨xs,⟨ho.1,?_⟩,fun k hk'=>?_,fun j hj=>?_⟩
 ·rcases ho.2 with hn|⟨g,cap,cur,rfl,hb,hgg,rest⟩
  ·exact .inl hn
  ·have hlt:=(Array.getElem?_eq_some_iff.1 hgg).1
   exact .inr ⟨g,cap,cur,rfl,hb,(hk.block g hlt (hS g (hg g rfl) hlt).1).trans hgg,rest⟩
 ·rcases ho.2 with⟨rfl,_⟩|⟨g,cap,cur,rfl,hb,hgg,rest⟩
  ·simp[Value.ownBlock]at hk'
  ·obtain rfl:g=k:=by simpa[Value.ownBlock]using hk'
   exact(hS g (hg g rfl) (Array.getElem?_eq_some_iff.1 hgg).1).2
 ·obtain⟨us,ur,h1,h2,h3⟩:=he j hj
  exact⟨us,ur,h1,h2,h3.keep hk fun b hb hlt _=>hS b hb hlt⟩
theorem zCM.below{W W':World}{base:Nat}{S:Nat->Prop}{v:Value}{T:List FitT}(h:zCM W base S v T)(hb:Below W.heap.size W W'):zCM W' base S v T:=
 h.keep (Keep.of_below hb:Keep (fun _=>True) _ _) (fun _ h _=>⟨trivial,h⟩)
theorem zCM.snoc{W w1 w2:World}{base:Nat}{S:Nat->Prop}{v v' us ur:Value}{T:List FitT}{t:FitT}{xs:List Value}
 (ho:W.ownsRow base 73 2 v T.length xs)(he:∀j (hj:j<T.length),∃us ur,xs[j*2]? =some us∧xs[j*2+1]? =some ur∧FitC W S us ur T[j])(h1:FitC W S us ur t)
 (hW1:Below W.heap.size W w1)(hg:w1.grownBy w2 v.ownBlock)(ho':w2.ownsRow base 73 2 v' (T.length+1) (xs++[us,ur]))(hS':∀k,v'.ownBlock=some k->S k):zCM w2 base S v' (T++[t]):=by
 have hlen:xs.length=T.length*2:=ho.1
 have hk:Keep (fun b=>some b≠v.ownBlock) W w2:=(Keep.of_below hW1).trans (Keep.grown hg)
 have hel:∀us ur f,FitC W S us ur f->FitC w2 S us ur f:=fun us ur f h=>h.keep hk fun b hb hlt ⟨c,E,z,hE,hh⟩=>by
  refine⟨?_,hb⟩
  rcases ho.2 with⟨rfl,_⟩|⟨g,cap,cur,rfl,hbg,hgg,_⟩
  ·simp[Value.ownBlock]
  ·intro e
   obtain rfl:b=g:=by simpa[Value.ownBlock]using e
   rw[hh]at hgg
   cases hgg
   rcases hE with h|h
   ·exact absurd h (by decide)
   ·exact absurd h (by decide)
 refine⟨xs++[us,ur],by rw[List.length_append];exact ho',hS',fun j hj=>?_⟩
 by_cases e:j<T.length
 ·obtain⟨us',ur',k1,k2,k3⟩:=he j e
  refine⟨us',ur',by rw[List.getElem?_append_left (by omega)];exact k1,by rw[List.getElem?_append_left (by omega)];exact k2,?_⟩
  rw[List.getElem_append_left e];exact hel _ _ _ k3
 ·have:j=T.length:=by simp at hj;omega
  subst this
  refine⟨us,ur,by rw[List.getElem?_append_right (by omega),hlen];simp,by rw[List.getElem?_append_right (by omega),hlen,show T.length*2+1-T.length*2=1 by omega];rfl,?_⟩
  simp only[List.getElem_append_right (Nat.le_refl _),Nat.sub_self,List.getElem_cons_zero]
  exact hel _ _ _ h1
theorem FitV.fitC{lo:Nat}{S S':Nat->Prop}{f:FitT}{us ur:Value}{W:World}(h:FitV lo S f (.agg #[us,ur]) W)(hS:∀b,lo<=b->b<W.heap.size->¬S b->S' b):FitC W S' us ur f:=by
 obtain⟨pa,pn,pc,va,vn,vc,e,h1,h2,h3,h4,h5,h6,h7,h8⟩:=h
 simp only[Value.agg.injEq,Array.mk.injEq,List.cons.injEq,and_true]at e
 obtain⟨rfl,rfl⟩:=e
 refine⟨pa,pn,pc,va,vn,vc,rfl,rfl,h1,h2,h3,h4,h5,h6,fun b o e=>?_,fun b o e=>?_⟩
 ·obtain⟨g1,g2,g3,g4⟩:=h7 b o e
  exact⟨hS b g1 g2 g3,g2,g4⟩
 ·obtain⟨g1,g2,g3,g4⟩:=h8 b o e
  exact⟨hS b g1 g2 g3,g2,g4⟩
end
section
open Go.RowKit
attribute [local go_sem] Oper.semAt_some
theorem newsD(w:World)(x0 x1:Value)(T:TypeId):∀j u,[x0,x1][j]? =some u->(w.alloc (.cells #[x0,x1] T)).cell? ((⟨w.heap.size,0,none⟩:Addr).add j)=some u:=by
 intro j u hu
 match j,hu with
 |0,hu=>rw[Addr.add_lit,World.cell?_alloc_at _ _ _ _ rfl];simpa using hu
 |1,hu=>rw[Addr.add_lit,World.cell?_alloc_at _ _ _ _ rfl];simpa using hu
structure ColI (w:World) (base:Nat) (Sr:Nat->Prop) (pre:List FitT) (Z:World):Prop where
 b:Below w.heap.size w Z
 z:base<=Z.heap.size
 o:∃v,Boxed Z w.heap.size 87 v∧zCM Z base (fun q=>base<=q∧¬Sr q) v pre
theorem ColI.keep{w A B:World}{base:Nat}{S S':Nat->Prop}{pre:List FitT}(h:ColI w base S pre A)(hn:∀k,S' k->S k∨A.heap.size<=k)(hl:∀k,S' k->base<=k)(hb:w.heap.size<base)
 (hk:Keep (fun k=>(k<=w.heap.size∨base<=k)∧¬S' k) A B):ColI w base S' pre B:=by
 have hns:∀k,k<base->¬S' k:=fun k hk hs=>by have:=hl k hs;omega
 obtain⟨v,h1,h2⟩:=h.o
 refine⟨hk.below h.b h.b.size fun k hk=>⟨by omega,hns k (by omega)⟩,Nat.le_trans h.z hk.size,v,(hk.block _ h1.lt ⟨by omega,hns _ (by omega)⟩).trans h1,h2.keep hk fun q hq hlt=>?_⟩
 have h4:¬S' q:=fun hs=>by
  rcases hn q hs with h|h
  ·exact hq.2 h
  ·omega
 exact⟨⟨.inr hq.1,h4⟩,hq.1,h4⟩
theorem appendFits_c(w:World)(k kb qb:Nat)(a a2:Option Addr)(n cap n2 cap2:Nat)(M:Mask)(y:List Int)(hn:M.length=n)(hn2:y.length=n2)(hm:n<=maxLen)(hm2:n2<=maxLen)(h1:1<=n)(hW:zAE M<=10)(hk:k<=1000)
 (hkb:kb<w.heap.size)(hqb:qb<w.heap.size)(hck:w.cell? ⟨kb,0,none⟩=some (.int .i64 k))(hcq:w.heap[qb]? =some (.cells #[.slice a n cap,.slice a2 n2 cap2] 216 (0,0)))(H:zAM w a M)(H2:zAI w a2 y):
 Calls Tryz.prog 253 #[.slice none 0 0,.func (.func 254) #[] #[.pointer (some ⟨kb,0,none⟩),.pointer (some ⟨qb,0,none⟩)]] w fun e w'=>
  Below w.heap.size w w'∧∃v base,e=.returned v∧w.heap.size<=base∧zCM w' base (fun q=>w.heap.size<=q) v (zBH M y k):=by
 obtain⟨w1,hw1⟩:=exq (w.alloc (.cells #[.slice none 0 0] 87))
 have hs1:w1.heap.size=w.heap.size+1:=by rw[hw1,World.size_alloc]
 have hb1:Below w.heap.size w w1:=by rw[hw1];exact(Below.refl _ _).alloc (Nat.le_refl _) _
 have hB:Boxed w1 w.heap.size 87 (.slice none 0 0):=by rw[hw1];exact World.alloc_heap_new _ _
 obtain⟨fp,hfp⟩:∃fp:Nat->Prop,fp=fun q=>q<w.heap.size:=⟨_,rfl⟩
 have HIT:=hid (fits_iter w1 fp k kb qb a a2 n cap n2 cap2 M y hn hn2 hm hm2 h1 (by omega) hk (by rw[hfp];intro q hq;show q<w1.heap.size;have:q<w.heap.size:=hq;omega) (by rw[hfp];exact hkb) (by rw[hfp];exact hqb)
  ((hb1.cell (p:=⟨kb,0,none⟩) hkb).trans hck) ((hb1.block _ hqb).trans hcq)
  (fun X _ hX=>by
    have hX2:∀q,q<w.heap.size->X.heap[q]? =w.heap[q]? :=fun q hq=>(hX q (by rw[hfp];exact hq)).trans (hb1.block q hq)
    exact⟨zAM.blk H hX2,zAI.blk H2 hX2⟩))
 have HCNT:=hid (show(zBH M y k).length<=11264 by
  have h3:=zDD M y (zAE M) (min (min k (zAE M)) M.length+1)
  have h4:2 ^ (zAE M)<=1024:=Nat.pow_le_pow_right (by omega) (show zAE M<=10 by omega)
  have h5:(min (min k (zAE M)) M.length+1)*2 ^ (zAE M)<=11*1024:=Nat.mul_le_mul (by omega) h4
  have h6:(zBH M y k).length=(zBO M y (zAE M) (min (min k (zAE M)) M.length+1)).length:=rfl
  omega)
 have HFP:=hid hfp
 have HW1:=hid hw1
 have HS1:=hid hs1
 have HB1:=hid hb1
 have HBX:=hid hB
 clear hn hn2 hm hm2 h1 hW hk hkb hqb hck hcq H H2 hw1 hs1 hb1 hB hfp
 refine callsIn_wide (n:=0) |>.1 ?_
 refine callsIn_of_wp_marks Tryz.func253 rfl trivial ?_ rfl
 simp only[Tryz.ntmps253,List.size_toArray,List.length_cons,List.length_nil,Nat.reduceAdd,Nat.reduceSub,Array.replicate_succ,Array.replicate_zero,List.push_toArray,List.append_toArray,List.nil_append,List.cons_append]
 gi_wp2
 rw[<- HW1.out]
 refine range_s (gf:=254) (lb:=#[.pointer (some ⟨kb,0,none⟩),.pointer (some ⟨qb,0,none⟩)]) (xs:=zBH M y k) (fp:=fp) (V:=FitV) rfl (enters_of Tryz.func254 (by kernel_rfl) rfl)
  HIT.out (Below.refl _ _) (by rw[HFP.out];intro q h;have:=HS1.out;have:q<w.heap.size:=h;omega)
  (fun Sr pre Z=>ColI w (w1.heap.size+2) Sr pre Z)
  (fun _ _ _ _=>False) ?hI (fun _ _ _ _ _ _ h=>h.elim) ?hV ?h0
  (fun v a' Z=>∃p u1 u2 f0 f1,a'={tmps:=#[.slice none 0 0,f0,.pointer (some ⟨w.heap.size,0,none⟩),undef,.slice none 0 0,.pointer (some ⟨p,0,none⟩),f1,v,undef,undef,undef,undef,undef],defers:=[]}∧v=.agg #[u1,u2]∧w1.heap.size+2<=p∧Z.heap[p]? =some (.cells #[u1,u2] 73 (0,0))) ?hAx ?hassign ?hbody ?hdone ?hstop
 case hI=>
  intro Sr Sr' s A B hIA h1 h2 h3 h4 hk
  exact hIA.keep h2 h3 (by have:=HS1.out;omega) (hk.mono fun k hk=>by have:=HS1.out;exact⟨by omega,by omega,hk.2⟩)
 case hV=>
  intro Sr x v A B hv hk
  exact hv.keep hk (fun k hk=>⟨by omega,by omega⟩)
 case h0=>
  intro Z hk hZ
  have hs1:=HS1.out
  exact⟨hk.below HB1.out HB1.out.size fun k hk=>by omega,hZ,_,(hk.block _ HBX.out.lt (by show _<_;omega)).trans HBX.out,zCM.nil _ _ _⟩
 case hAx=>
  rintro v a' A B ⟨p,u1,u2,f0,f1,e1,e2,hp,hc⟩ hk
  exact⟨p,u1,u2,f0,f1,e1,e2,hp,(hk.block p (Array.getElem?_eq_some_iff.1 hc).1 ⟨by omega,by omega⟩).trans hc⟩
 case hassign=>
  rintro l Sr x v Z K hZ ⟨pa,pn,pc,va,vn,vc,rfl,_⟩ hK
  gi_wp2
  refine hK _ _ ((Below.refl _ _).alloc (Nat.le_refl _) _) ⟨Z.heap.size,_,_,_,_,rfl,rfl,hZ,World.alloc_heap_new Z _⟩
 case hbody=>
  rintro l' Sr pre f _ _ Z hpre hSr hI hv ⟨p,u1,u2,f0,f1,rfl,rfl,hp,hpc⟩ hZ hDo hLo
  obtain⟨v,hvb,hro⟩:=hI.o
  have hFC:FitC Z (fun q=>w1.heap.size+2<=q∧¬Sr q) u1 u2 f:=hv.fitC fun b h1 h2 h3=>⟨h1,h3⟩
  have hcnt:pre.length+1<=11264:=by have h1:=HCNT.out;have h2:=hpre.length_le;simp at h2;omega
  obtain⟨pa,pn,pc,va,vn,vc,e1,e2,_⟩:=id hFC
  subst e1 e2
  have hp0:Z.cell? ⟨p,0,none⟩=some (.slice pa pn pc):=by simp[World.cell?,hpc]
  have hp1:Z.cell? ⟨p,1,none⟩=some (.slice va vn vc):=by simp[World.cell?,hpc]
  have hbc:=hvb.cell
  obtain⟨xs,ho,hg,he⟩:=hro
  obtain⟨i0,hi0,hz0,hz1,hz2⟩:=info_parts zHI
  have HI:=hid hI
  have HVB:=hid hvb
  have HO:=hid ho
  have HG:=hid hg
  have HE:=hid he
  have HFC:=hid hFC
  have HSR:=hid hSr
  have M1:=hid (show pre.length+1<=maxLen by unfold maxLen;omega)
  have M2:=hid (show(pre.length+1)*48<=140737488355328 by omega)
  have M3:=hid (show w1.heap.size+2<=(Z.alloc (.cells #[.slice pa pn pc,.slice va vn vc] 73)).heap.size by simp;omega)
  have HZ:=hid hZ
  clear hI hvb ho hg he hFC hSr hpre hv hcnt hDo hLo hpc
  gi_wp2_with (gi_at_builtin;go_loud (refine wpListIn_append_own_at _ rfl _ _ 87 rfl (w1.heap.size+2) 73 i0 (.agg #[.slice none 0 0,.slice none 0 0]) 2 48 Tryz.underlying87 hi0 hz0 hz1 hz2 rfl (by decide) v _ _ rfl (HO.out.alloc _) ⟨Z.heap.size,0,none⟩ 1 1 [.slice pa pn pc,.slice va vn vc] rfl rfl (newsD Z _ _ _) (by intro u hu;simp at hu;rcases hu with rfl|rfl<;>rfl) M1.out M2.out M3.out ?_;refine Stop.of ?_))
  refine Stop.go ?_
  intro v5 w9 own5 g5 _ hat5
  obtain⟨a5,c5,rfl⟩:=zAC own5
  have hob:∀q,v.ownBlock=some q->w1.heap.size+2<=q∧¬Sr q:=fun q hq=>HG.out q hq
  have hs1:=HS1.out
  have hzz:=HZ.out
  have hZ1:Below Z.heap.size Z (Z.alloc (.cells #[.slice pa pn pc,.slice va vn vc] 73)):=(Below.refl _ _).alloc (Nat.le_refl _) _
  have hK9:Keep (fun q=>some q≠v.ownBlock) Z w9:=(Keep.of_below hZ1).trans (Keep.grown g5)
  have hS5:∀q,(Value.slice a5 (pre.length+1) c5).ownBlock=some q->w1.heap.size+2<=q∧¬Sr q:=fun q hq=>by
   rcases hat5 with e|e
   ·exact hob q (by rw[<- e];exact hq)
   ·rw[e]at hq
    cases hq
    exact⟨by omega,fun hs=>by have:=(HSR.out _ hs).2;omega⟩
  have hF9:zCM w9 (w1.heap.size+2) (fun q=>w1.heap.size+2<=q∧¬Sr q) (.slice a5 (pre.length+1) c5) (pre++[f]):=zCM.snoc HO.out HE.out HFC.out hZ1 g5 own5 hS5
  have hbx9:Boxed w9 w.heap.size 87 v:=(hK9.block _ HVB.out.lt (by intro e;have:=(hob _ e.symm).1;omega)).trans HVB.out
  have hc9:=hbx9.cell
  have hf9:=hbx9.frozen
  obtain⟨wA,hwA⟩:=exq (w9.setCell ⟨w.heap.size,0,none⟩ (.slice a5 (pre.length+1) c5))
  have kA:Keep (fun q=>q≠w.heap.size) w9 wA:=by rw[hwA];exact Keep.set w9 _ 0 _
  have nA:Boxed wA w.heap.size 87 (.slice a5 (pre.length+1) c5):=by rw[hwA];exact hbx9.set _
  have HA:=hid (And.intro nA (And.intro kA (And.intro hF9 hK9)))
  have HWA:=hid hwA
  have HOB:=hid hob
  clear own5 g5 hat5 hob hK9 hS5 hF9 hbx9 hwA kA nA hs1 hzz hZ1 hi0 hz0 hz1 hz2
  gi_wp2
  rw[<- HWA.out]
  obtain⟨nA,kA,hF9,hK9⟩:=HA.out
  have hs1:=HS1.out
  have kk:Keep (fun q=>q≠w.heap.size∧some q≠v.ownBlock) Z wA:=(hK9.mono fun q hq=>hq.2).trans (kA.mono fun q hq=>hq.1)
  refine⟨kk.size,fun q hq=>?_,?_⟩
  ·have hq1:q<Z.heap.size∧q≠w.heap.size∧some q≠v.ownBlock:=by
    have hzz:=HZ.out
    rcases hq with h|h|h|h
    ·rw[HFP.out]at h
     have h':q<w.heap.size:=h
     exact⟨by omega,by omega,fun e=>by have:=(HOB.out _ e.symm).1;omega⟩
    ·exact⟨by omega,by omega,fun e=>by have:=(HOB.out _ e.symm).1;omega⟩
    ·exact⟨by omega,by omega,fun e=>by have:=(HOB.out _ e.symm).1;omega⟩
    ·have:=HSR.out q h
     exact⟨this.2,by omega,fun e=>(HOB.out _ e.symm).2 h⟩
   exact kk.block q hq1.1 hq1.2
  ·refine⟨kk.below HI.out.b HI.out.b.size fun q hq=>⟨by omega,fun e=>by have:=(HOB.out _ e.symm).1;omega⟩,Nat.le_trans HZ.out kk.size,_,nA,hF9.keep kA fun q hq _=>⟨by have:=hq.1;omega,hq⟩⟩
 case hdone=>
  intro Sr Z hZ hSr hI hmk
  obtain⟨v,hvb,hro⟩:=hI.o
  have hcv:=hvb.cell
  have HI:=hid hI
  have HRO:=hid hro
  have HMR:=hid hmk
  obtain⟨va,vc,rfl⟩:=hro.slice
  clear hI hvb hro hmk hSr
  gi_wp2
  have hs1:=HS1.out
  refine zFZ [w1.heap.size] Z (by simp) (fun h hh=>by rw[List.mem_singleton.1 hh];exact HMR.out) fun w' hk=>?_
  refine⟨_,results_tmp rfl _ _ _,hk.below HI.out.b HI.out.b.size (fun k hk hh=>by rw[List.mem_singleton.1 hh]at hk;omega),_,w1.heap.size+2,rfl,by omega,?_⟩
  exact HRO.out.keep hk (fun q hq _=>⟨fun hh=>by have:=hq.1;rw[List.mem_singleton.1 hh]at this;omega,by have:=hq.1;omega⟩)
 case hstop=>
  intro Sr c pre Z hpre hSr hI hmk
  exact hI.elim
end
section
open Go.RowKit
theorem zPC(w:World)(k kb qb:Nat)(a a2:Option Addr)(n cap n2 cap2:Nat)(M:Mask)(y:List Int)(hn:M.length=n)(hn2:y.length=n2)(hm:n<=maxLen)(hm2:n2<=maxLen)(h1:1<=n)(hW:zAE M<=10)(hk:k<=1000)
 (hkb:kb<w.heap.size)(hqb:qb<w.heap.size)(hck:w.cell? ⟨kb,0,none⟩=some (.int .i64 k))(hcq:w.heap[qb]? =some (.cells #[.slice a n cap,.slice a2 n2 cap2] 216 (0,0)))(H:zAM w a M)(H2:zAI w a2 y):
 Calls Tryz.prog 233 #[.func (.func 254) #[] #[.pointer (some ⟨kb,0,none⟩),.pointer (some ⟨qb,0,none⟩)]] w fun e w'=>
  Below w.heap.size w w'∧∃v base,e=.returned v∧w.heap.size<=base∧zCM w' base (fun q=>w.heap.size<=q) v (zBH M y k):=by
 have HA:=hid (appendFits_c w k kb qb a a2 n cap n2 cap2 M y hn hn2 hm hm2 h1 hW hk hkb hqb hck hcq H H2)
 clear hn hn2 hm hm2 h1 hW hk hkb hqb hck hcq H H2
 go_enter Tryz.func233,Tryz.ntmps233
 go_wp2_with (go_at_call 253;refine HA.out.mono ?_;rintro e w1 ⟨hb,v,base,rfl,hbs,hf⟩)
 go_ret
 exact⟨hb,v,base,rfl,hbs,hf⟩
theorem collect2_c(X:World)(q:Nat)(a a2:Option Addr)(n cap n2 cap2:Nat)(M:Mask)(y:List Int)(hn:M.length=n)(hn2:y.length=n2)(hm:n<=maxLen)(hm2:n2<=maxLen)(h1:1<=n)(hW:zAE M<=10)(hk:q<=1000)(H:zAM X a M)(H2:zAI X a2 y)(X2:World)(hX2:X2=(X.alloc (.cells #[.slice a n cap,.slice a2 n2 cap2] 216)).alloc (.cells #[.int .i64 (q:Int)] 3)):
 Calls Tryz.prog 233 #[.func (.func 254) #[] #[.pointer (some ⟨X.heap.size+1,0,none⟩),.pointer (some ⟨X.heap.size,0,none⟩)]] X2 fun e w'=>
  Below X2.heap.size X2 w'∧∃v base,e=.returned v∧X2.heap.size<=base∧zCM w' base (fun q=>X2.heap.size<=q) v (zBH M y q):=by
 have hb2:Below X.heap.size X X2:=by rw[hX2];exact((Below.refl _ X).alloc (Nat.le_refl _) _).alloc (by simp) _
 have e1:X2.heap[X.heap.size]? =some (.cells #[.slice a n cap,.slice a2 n2 cap2] 216 (0,0)):=by
  rw[hX2,Below.heap_alloc _ _ _ (by simp)];exact World.alloc_heap_new _ _
 have e2:X2.cell? ⟨X.heap.size+1,0,none⟩=some (.int .i64 (q:Int)):=by
  have:=World.alloc_heap_new (X.alloc (.cells #[.slice a n cap,.slice a2 n2 cap2] 216)) (.cells #[.int .i64 (q:Int)] 3)
  rw[World.size_alloc,<- hX2]at this
  simp[World.cell?,this]
 have hs:X2.heap.size=X.heap.size+2:=by rw[hX2];simp
 exact zPC X2 q (X.heap.size+1) X.heap.size a a2 n cap n2 cap2 M y hn hn2 hm hm2 h1 hW hk (by omega) (by omega) e2 e1 (H.below hb2) (H2.below hb2)
theorem sparseFits_c(w:World)(a a2:Option Addr)(n cap n2 cap2:Nat)(M:Mask)(y:List Int)(k:Int)(hn:M.length=n)(hn2:y.length=n2)(hm:n<=maxLen)(hm2:n2<=maxLen)(H:zAM w a M)(H2:zAI w a2 y):
 Calls Tryz.prog 197 #[.slice a n cap,.slice a2 n2 cap2,.int .i64 k] w fun e w'=>Below w.heap.size w w'∧((zGD M y k≠0∧e=.returned (.tuple #[.slice none 0 0,.int .i64 (zGD M y k)]))∨
  (zGD M y k=0∧∃v base,e=.returned (.tuple #[v,.int .i64 0])∧w.heap.size<=base∧zCM w' base (fun q=>w.heap.size<=q) v (zBH M y k.toNat))):=by
 have HC:=hid (counted_c w a a2 n cap n2 cap2 M y k hn hn2 hm hm2 H H2)
 by_cases h0:zGD M y k=0
 ·obtain⟨hM,hyn,hyB,_⟩:=zHP (show zAZ M y []=0 by
   unfold zGD at h0;split at h0
   ·assumption
   ·exact h0)
  have hk:inB k 0 10=true:=by
   unfold zGD at h0;split at h0
   ·cases hb:inB k 0 10
    ·rw[hb]at h0;simp at h0
    ·rfl
   ·contradiction
  obtain⟨hM',h1,h6,hc1,hc10⟩:=zCW hM
  have hkk:∃q:Nat,k=(q:Int)∧q<=10:=⟨k.toNat,by unfold inB at hk;simp at hk;omega,by unfold inB at hk;simp at hk;omega⟩
  obtain⟨q,rfl,hq10⟩:=hkk
  have HCO:=hid (fun(X:World) (hX:Below w.heap.size w X) (X2:World)=>collect2_c X q a a2 n cap n2 cap2 M y hn hn2 hm hm2 (by omega) hc10 (by omega) (H.below hX) (H2.below hX) X2)
  rw[h0]at HC⊢
  rw[Int.toNat_natCast]
  obtain⟨F,hF⟩:=exq (zBH M y q)
  rw[<- hF]at HCO⊢
  clear hn hn2 hm hm2 H H2 h0 hM hyn hyB hk hM' h1 h6 hc1 hc10 hF
  go_enter Tryz.func197,Tryz.ntmps197
  go_wp2_with (go_at_call 232;refine HC.out.mono ?_;rintro e w1 ⟨rfl,hb1⟩;refine Stop.of ?_)
  refine Stop.go ?_
  have HB1:=hid hb1
  clear hb1
  go_wp2_with (go_at_call 234;refine(qfits_c _ _ _ _ _ _ _ _).mono ?_;rintro e w2 ⟨rfl,hw2⟩;have HW2:=hid hw2;clear hw2;refine Stop.of ?_)
  refine Stop.go ?_
  have hco:=HCO.out w1 HB1.out w2 HW2.out
  have HC2:=hid hco
  have HB12:=hid (show Below w1.heap.size w1 w2 by rw[HW2.out];exact((Below.refl _ w1).alloc (Nat.le_refl _) _).alloc (by simp) _)
  clear hco
  go_wp2_with (go_at_call 233;refine HC2.out.mono ?_;rintro e w3 ⟨hb3,v,base,rfl,hbs,hf⟩)
  go_ret2
  exact⟨zAA HB1.out (zAA HB12.out hb3),.inr ⟨trivial,v,base,rfl,by have:=HB1.out.size;have:=HB12.out.size;omega,hf.keep (Keep.refl (fun _=>True) _) fun q hq _=>⟨trivial,by have:=HB1.out.size;have:=HB12.out.size;omega⟩⟩⟩
 ·have hne:(zGD M y k !=0)=true:=by simpa using h0
  have H0:=hid h0
  obtain⟨E,hE⟩:=exq (zGD M y k)
  rw[<- hE]at HC hne H0⊢
  clear hn hn2 H H2 h0 hE
  go_enter Tryz.func197,Tryz.ntmps197
  go_wp2_with (go_at_call 232;refine HC.out.mono ?_;rintro e w1 ⟨rfl,hb1⟩)
  go_ret2
  exact⟨hb1,.inl ⟨H0.out,rfl⟩⟩
theorem dfits_c(w:World)(a a2:Option Addr)(n cap n2 cap2:Nat)(M:Mask)(y:List Int)(hn:M.length=n)(hn2:y.length=n2)(hm:n<=maxLen)(hm2:n2<=maxLen)(H:zAM w a M)(H2:zAI w a2 y)(h0:zAZ M y []=0):
 Calls Tryz.prog 135 #[.agg #[.slice a n cap,.slice a2 n2 cap2]] w fun e w'=>Below w.heap.size w w'∧∃v base,e=.returned v∧w.heap.size<=base∧zCM w' base (fun q=>w.heap.size<=q) v (zBH M y 10):=by
 obtain⟨wz,hwz⟩:=exq (w.alloc (.cells #[.slice a n cap,.slice a2 n2 cap2] 86))
 have hbz:Below w.heap.size w wz:=by rw[hwz];exact(Below.refl _ _).alloc (Nat.le_refl _) _
 have l0:wz.cell? ⟨w.heap.size,0,none⟩=some (.slice a n cap):=by rw[hwz,World.cell?_alloc_at _ _ _ _ rfl];rfl
 have l1:wz.cell? ⟨w.heap.size,1,none⟩=some (.slice a2 n2 cap2):=by rw[hwz,World.cell?_alloc_at _ _ _ _ rfl];rfl
 have hc:zGD M y 10=0:=by unfold zGD;rw[if_pos h0];decide
 have HF:=hid (sparseFits_c wz a a2 n cap n2 cap2 M y 10 hn hn2 hm hm2 (H.below hbz) (H2.below hbz))
 rw[hc]at HF
 have HBZ:=hid hbz
 obtain⟨F,hF⟩:=exq (zBH M y 10)
 have hF2:F=zBH M y (10:Int).toNat:=hF
 rw[<- hF]
 rw[<- hF2]at HF
 have HW:=hid hwz
 clear hn hn2 hm hm2 H H2 h0 hbz hc hF hF2 hwz
 go_enter Tryz.func135,Tryz.ntmps135
 go_upto_region 1 with fail
 rw[<- HW.out]
 go_wp2_with (go_at_call 197;refine HF.out.mono ?_;rintro e w3 ⟨hb3,⟨hx,_⟩|⟨_,v,base,rfl,hbs,hf⟩⟩;first|exact absurd rfl hx|skip)
 go_ret
 exact⟨zAA HBZ.out hb3,v,base,rfl,Nat.le_trans HBZ.out.size hbs,hf.keep (Keep.refl (fun _=>True) _) fun q hq _=>⟨trivial,Nat.le_trans HBZ.out.size hq⟩⟩
end
section
theorem denP_pos{x:List Rt}(h:∀k,0<(zAG x k).2):∀k,0<denP x k
 |0=>by show(0:Int)<1;decide
 |k+1=>Int.mul_pos (denP_pos h k) (h k)
theorem solve_of{M:List (List Int)}{n:Nat}(h:MaskOk M n){y:List Int}(hy:y.length=M.length)(hmil:∀v∈y,-1000000<=v∧v<=1000000)(hr:zFG M n=n)
 {l:Nat->Int}{D:Int}(hD:D≠0)(hl:∀q,q<M.length->sm (fun i=>rowv M q i*l i) n=vec y q*D):
 (zAW (zAH M y) n).2=0∧(zAW (zAH M y) n).1.length=n∧∀k,k<n->(zAG (zAW (zAH M y) n).1 k).1*D=l k*(zAG (zAW (zAH M y) n).1 k).2∧0<(zAG (zAW (zAH M y) n).1 k).2∧(zAG (zAW (zAH M y) n).1 k).2<=288∧Int.gcd (zAG (zAW (zAH M y) n).1 k).1 (zAG (zAW (zAH M y) n).1 k).2=1:=by
 have hY:=h.addY hy (Y:=1000000) (by decide) (by simpa using hmil)
 have hi:=zCG (zAH M y) hY.wid n (fun j hj q=>zBZ (by decide) (fun r hr=>hY.one r hr j hj) q)
 have hpiv:=zLI h hy hY
 have hJl:(pRed (zAH M y) n).2.length=n:=by rw[hpiv];exact hr
 have hasc:(pRed (zAH M y) n).2=List.range' 0 n:=zLE hi.asc (fun x hx=>by have:=hi.lt x hx;omega) hJl
 have hjf:∀k,k<n->jf (pRed (zAH M y) n).2 k=k:=fun k hk=>by
  rw[hasc];unfold jf;rw[List.getElem?_range' hk];simp
 have hlen:(zAH M y).length=M.length:=zDR hy
 have hdot:∀u,Sp (RB (zAH M y).length (rowv (zAH M y))) u->dotS u (fun c=>if c<n then l c else-D) (n+1)=0:=by
  intro u hu
  refine zOW ?_ hu
  rintro v ⟨q,hq,rfl⟩
  rw[hlen]at hq
  unfold dotS
  rw[zLM,zAP (g:=fun i=>rowv M q i*l i) (fun c hc=>by simp only[if_pos hc];rw[zGI h hy hq,if_pos hc]),hl q hq]
  simp only[Nat.lt_irrefl,if_false]
  rw[zGI h hy hq,if_neg (by omega),if_pos rfl]
  rw[Int.mul_neg];omega
 have hsp1:=hi.sp1
 rw[<- hlen]at hy
 -- the rows behind the pivots
 have h0:∀q,n<=q->q<(zAH M y).length->rowv (pRed (zAH M y) n).1 q n=0:=by
  intro q h1 h2
  have hd:=hdot _ (hsp1 q h2)
  unfold dotS at hd
  rw[zLM,zAP (g:=fun _=>0) (fun c hc=>by simp only[if_pos hc];rw[hi.zero q (by omega) h2 c hc];simp),zFW]at hd
  simp only[Nat.lt_irrefl,if_false]at hd
  rcases Int.mul_eq_zero.1 (show rowv (pRed (zAH M y) n).1 q n* -D=0 by omega)with e|e
  ·exact e
  ·omega
 have hpl:=zFC (zAH M y) n
 have hany:((pRed (zAH M y) n).1.drop (pRed (zAH M y) n).2.length).any (nz n)=false:=by
  rw[List.any_eq_false]
  intro r hr2
  obtain⟨i,hilt,rfl⟩:=List.mem_iff_getElem.1 hr2
  rw[List.getElem_drop]
  rw[List.length_drop]at hilt
  have:=h0 ((pRed (zAH M y) n).2.length+i) (by omega) (by omega)
  rw[zFX (by omega)]at this
  simpa[nz]using this
 have hs:zAW (zAH M y) n=((List.range n).map fun k=>ofF (vec ((pRed (zAH M y) n).1[k]?.getD []) n) (vec ((pRed (zAH M y) n).1[k]?.getD []) (jf (pRed (zAH M y) n).2 k)),0):=by
  unfold zAW
  simp only[]
  rw[if_neg (by rw[hany];simp),if_neg (by omega)]
 rw[hs]
 refine⟨rfl,by simp,fun k hk=>?_⟩
 have hk':k<(pRed (zAH M y) n).2.length:=by omega
 have hb:=hi.piv_288 (by rw[zDR (by omega)];exact h.le6) (fun x hx r=>zBZ (by decide) (fun r hr=>hY.one r hr x (hi.lt x hx)) r) hk'
 have e1:zAG ((List.range n).map fun k=>ofF (vec ((pRed (zAH M y) n).1[k]?.getD []) n) (vec ((pRed (zAH M y) n).1[k]?.getD []) (jf (pRed (zAH M y) n).2 k))) k=ofF (rowv (pRed (zAH M y) n).1 k n) (rowv (pRed (zAH M y) n).1 k (jf (pRed (zAH M y) n).2 k)):=by
  unfold zAG
  rw[List.getElem?_map,List.getElem?_range hk];rfl
 rw[e1,zLY hb.1]
 have hd:=hdot _ (hsp1 k (Nat.lt_of_lt_of_le hk' hi.K_le))
 unfold dotS at hd
 rw[zLM,zDU hk (fun c hc hne=>?_)]at hd
 ·simp only[if_pos hk,Nat.lt_irrefl,if_false]at hd
  have hjk:=hjf k hk
  rw[hjk]at hb⊢
  obtain⟨c1,c2,c3,c4,c5⟩:=zCO (a:=rowv (pRed (zAH M y) n).1 k n) hb.1
  refine⟨?_,c1,by omega,c4⟩
  generalize rowv (pRed (zAH M y) n).1 k k=b at*
  generalize rowv (pRed (zAH M y) n).1 k n=a at*
  generalize zAQ a b=p at*
  obtain⟨b1,b2⟩:=p
  dsimp only at*
  have e2:b*(b1*D)=b*(l k*b2):=by
   have:b*(b1*D)=(b1*b)*D:=by grind
   rw[this,c5]
   have hd':b*l k=a*D:=by rw[Int.mul_neg]at hd;omega
   have:b*(l k*b2)=(b*l k)*b2:=by grind
   rw[this,hd'];grind
  exact Int.eq_of_mul_eq_mul_left (by omega) e2
 ·simp only[if_pos hc]
  have hc':c<(pRed (zAH M y) n).2.length:=by omega
  have:=hi.ech.red.off k hk' c hc' (fun e=>hne e.symm)
  rw[hjf c hc]at this
  rw[this];simp
theorem solve_to{M:List (List Int)}{n:Nat}(h:MaskOk M n){y:List Int}(hy:y.length=M.length)(hmil:∀v∈y,-1000000<=v∧v<=1000000)(he:(zAW (zAH M y) n).2=0):
 zFG M n=n∧∃(l:Nat->Int) (D:Int),0<D∧(∀q,q<M.length->sm (fun i=>rowv M q i*l i) n=vec y q*D)∧∀k,k<n->(zAG (zAW (zAH M y) n).1 k).1*D=l k*(zAG (zAW (zAH M y) n).1 k).2:=by
 have hY:=h.addY hy (Y:=1000000) (by decide) (by simpa using hmil)
 have hi:=zCG (zAH M y) hY.wid n (fun j hj q=>zBZ (by decide) (fun r hr=>hY.one r hr j hj) q)
 have hpiv:=zLI h hy hY
 have hle:=zNV (a:=0) (b:=n) hi.asc (fun x hx=>⟨Nat.zero_le _,hi.lt x hx⟩)
 have hge:n<=(pRed (zAH M y) n).2.length:=by
  unfold zAW at he
  simp only[]at he
  split at he
  ·simp at he
  ·split at he
   ·simp at he
   ·omega
 have hr:zFG M n=n:=by
  have:zFG M n=(pRed (zAH M y) n).2.length:=by rw[hpiv];rfl
  omega
 have hss:=zNC hY
 have hn:n∉(rRed (zAH M y) (n+1)).piv:=by
  intro hm
  rw[hss]at he
  unfold zND zBL at he
  simp only[]at he
  rw[if_pos hm]at he
  simp at he
 have hsv:(zAW (zAH M y) n).1=(zBL (zAH M y) n).1:=by
  rw[hss]at he⊢
  unfold zND at he⊢
  simp only[]at he⊢
  split at he
  ·simp at he
  ·rename_i h1
   split at he
   ·simp at he
   ·rename_i h2
    rw[if_neg h1,if_neg h2]
 obtain⟨_,hpos⟩:=zKE hY (Nat.le_refl _) hn
 refine⟨hr,numP (zBL (zAH M y) n).1 n,denP (zBL (zAH M y) n).1 n,denP_pos hpos n,fun q hq=>?_,fun k hk=>?_⟩
 ·have:=solved_row hY (Nat.le_refl _) hn (RB.sp (K:=(zAH M y).length) (R:=rowv (zAH M y)) (k:=q) (by rw[zDR hy];exact hq))
  rw[zAP (g:=fun i=>rowv M q i*numP (zBL (zAH M y) n).1 n i) (fun c hc=>by rw[zGI h hy hq,if_pos hc]),zGI h hy hq,if_neg (by omega),if_pos rfl]at this
  exact this
 ·rw[hsv]
  have:=numP_eq (x:=(zBL (zAH M y) n).1) (W:=n) hk
  omega
end
section
structure Circ (M:List (List Int)) (n:Nat) (c:List Int):Prop where
 len:c.length=n
 ker:zDY M n (vec c)
 prim:Prim (vec c)
 pos:0<zCE c
 least:∀v,zDY M n v->(∀j,j<n->vec c j=0->v j=0)->(∃j,j<n∧v j≠0)->∀j,j<n->vec c j≠0->v j≠0
theorem zHL:∀(l:List Int),zCE l≠0->∃j,j<l.length∧vec l j=zCE l∧∀i,i<j->vec l i=0
 | [],h=>by simp[zCE]at h
 |x::l,h=>by
  by_cases e:x=0
  ·have h1:zCE (x::l)=zCE l:=by show(if x=0 then zCE l else x)=_;rw[if_pos e]
   rw[h1]at h⊢
   obtain⟨j,hj,h2,h3⟩:=zHL l h
   refine⟨j+1,by simp;omega,by rw[<- h2];simp[vec],fun i hi=>?_⟩
   cases i with
   |zero=>simp[vec,e]
   |succ i=>have:=h3 i (by omega);simpa[vec]using this
  ·have h1:zCE (x::l)=x:=by show(if x=0 then zCE l else x)=_;rw[if_neg e]
   rw[h1]
   exact⟨0,by simp,by simp[vec],fun i hi=>by omega⟩
theorem zNP:∀(l:List Int) (j:Nat),vec l j≠0->(∀i,i<j->vec l i=0)->zCE l=vec l j
 | [],j,h,_=>by simp[vec]at h
 |x::l,0,h,_=>by
  have hx:x≠0:=by simpa[vec]using h
  show(if x=0 then zCE l else x)=_
  rw[if_neg hx];simp[vec]
 |x::l,j+1,h,h0=>by
  have hx:x=0:=by have:=h0 0 (by omega);simpa[vec]using this
  show(if x=0 then zCE l else x)=_
  rw[if_pos hx,zNP l j (by simpa[vec]using h) (fun i hi=>by have:=h0 (i+1) (by omega);simpa[vec]using this)]
  simp[vec]
theorem vec_ext{l m:List Int}(hl:l.length=m.length)(h:∀j,vec l j=vec m j):l=m:=
 List.ext_getElem hl fun j h1 h2=>by have:=h j;rwa [zCT h1,zCT h2]at this
theorem zDY.lin{M:List (List Int)}{n:Nat}{u v:Vec}(hu:zDY M n u)(hv:zDY M n v)(x y:Int):zDY M n (fun c=>x*u c+y*v c):=by
 intro q hq
 have h1:=hu q hq
 have h2:=hv q hq
 unfold dotS at*
 rw[zAP (g:=fun c=>x*(rowv M q c*u c)+y*(rowv M q c*v c)) (fun c _=>by grind),zKG,zDK,zDK,h1,h2];simp
theorem Circ.one{M:List (List Int)}{n:Nat}{c d:List Int}(hc:Circ M n c)(hd:Circ M n d)(hs:∀j,j<n->vec c j=0->vec d j=0):c=d:=by
 obtain⟨j0,hj0,e0,z0⟩:=zHL d (by have:=hd.pos;omega)
 rw[hd.len]at hj0
 have hd0:vec d j0≠0:=by have:=hd.pos;omega
 have hcd:=hc.least _ hd.ker hs ⟨j0,hj0,hd0⟩
 -- same support
 have hc0:vec c j0≠0:=fun e=>hd0 (hs j0 hj0 e)
 have zc:∀i,i<j0->vec c i=0:=fun i hi=>Classical.byContradiction fun h=>hcd i (by omega) h (z0 i hi)
 have ec:=zNP c j0 hc0 zc
 have hk:∀j,vec d j0*vec c j=vec c j0*vec d j:=by
  intro j
  rcases Nat.lt_or_ge j n with hj|hj
  ·refine Classical.byContradiction fun hne=>?_
   have hv:=hc.ker.lin hd.ker (vec d j0) (-(vec c j0))
   have:=hc.least _ hv (fun i hi h=>by rw[h,hs i hi h];simp) ⟨j,hj,fun h=>hne (by rw[Int.neg_mul]at h;omega)⟩ j0 hj0 hc0
   refine this ?_
   rw[Int.neg_mul,Int.mul_comm];omega
  ·rw[zFI (l:=c) (c:=j) (by rw[hc.len];exact hj),zFI (l:=d) (c:=j) (by rw[hd.len];exact hj)];simp
 refine vec_ext (by rw[hc.len,hd.len]) fun j=>prim_eq (x:=vec d j0) (y:=vec c j0) ?_ ?_ hk hc.prim hd.prim j
 ·have:=hd.pos;omega
 ·have:=hc.pos;omega
theorem zJW{M:List (List Int)}{n:Nat}(h:MaskOk M n){S c:List Int}(hS:zCL n S)(hne:S≠[])(hc:zGF M n S=some c):Circ M n c:=by
 obtain⟨f1,f2,_,f4,f5⟩:=zNT h hS hne hc
 refine⟨f1,f2,f4,f5,fun v hv h0 hn j hj hcj=>?_⟩
 refine circ_least h hS hc hv (fun i hi hm=>h0 i hi ?_) hn j ((zJC h hS hc j).1 hcj)
 exact Classical.byContradiction fun e=>hm ((zJC h hS hc i).1 e)
theorem comb_nodup0{n:Nat}{S:List Int}(hS:zCL n S):S.length<=n:=by
 rcases Nat.lt_or_ge n S.length with h|h
 ·have h1:=zJA n 0 S hS.1 (fun y hy=>by have:=hS.2 y hy;omega)
  rw[zEU n S.length 0 h]at h1
  simp at h1
 ·exact h
theorem circP_iff{M:List (List Int)}{n:Nat}(h:MaskOk M n){c:List Int}:c∈circP M n↔Circ M n c:=by
 rw[circP_mem]
 constructor
 ·rintro⟨k,S,hk,hS,hc⟩
  have hl:=zCR _ _ _ S hS
  exact zJW h (comb_ok hS) (fun e=>by rw[e]at hl;simp at hl) hc
 ·intro hc
  obtain⟨j0,hj0,e0,_⟩:=zHL c (by have:=hc.pos;omega)
  rw[hc.len]at hj0
  obtain⟨S,d,hS,_,hne,hsub,hd⟩:=zMS h _ (vec c) rfl hc.ker ⟨j0,hj0,by have:=hc.pos;omega⟩
  have hD:=zJW h hS hne hd
  have e:=hc.one hD (fun j hj hz=>Classical.byContradiction fun hn=>by
   have:=hsub _ ((zJC h hS hd j).1 hn)
   exact(zCH.1 this).2 hz)
  subst e
  obtain⟨k,hk⟩:∃k,S.length=k+1:=⟨S.length-1,by have:=List.length_pos_iff.2 hne;omega⟩
  have h1:¬zFG M n+1<S.length:=fun hlt=>by rw[circ1_many h hlt]at hd;cases hd
  have h2:S.length<=n:=by
   have:=(comb_nodup0 hS)
   exact this
  have h3:=zJA n 0 S hS.1 (fun y hy=>by have:=hS.2 y hy;omega)
  rw[hk]at h3
  exact⟨k,S,by omega,h3,hd⟩
theorem zHN:∀(m k:Nat) (a:Int),(comb m k a).Nodup
 |_,0,_=>by unfold comb;simp
 |0,_+1,_=>by unfold comb;simp
 |m+1,k+1,a=>by
  unfold comb
  rw[List.nodup_append]
  refine⟨?_,zHN m (k+1) (a+1),?_⟩
  ·unfold List.Nodup
   rw[List.pairwise_map]
   exact(zHN m k (a+1)).imp fun h e=>h (by simpa using e)
  ·rintro x hx y hy rfl
   obtain⟨z,_,rfl⟩:=List.mem_map.1 hx
   have:=(zJB _ _ _ _ hy).2 a (by simp)
   omega
end
section
def SolM(M:List (List Int))(n:Nat)(y:List Int)(l:Nat->Int)(D:Int):Prop:=0<D∧∀q,q<M.length->sm (fun i=>rowv M q i*l i) n=vec y q*D
theorem min_ratio{P:Nat->Prop}{a b:Nat->Int}(ha:∀j,P j->0<=a j)(hb:∀j,P j->0<b j):∀n:Nat,(∃j,j<n∧P j)->∃p,p<n∧P p∧∀j,j<n->P j->a p*b j<=a j*b p
 |0,h=>by obtain⟨j,hj,_⟩:=h;omega
 |n+1,h=>by
  by_cases hn:∃j,j<n∧P j
  ·obtain⟨p,hp,hP,hmin⟩:=min_ratio ha hb n hn
   by_cases hPn:P n∧a n*b p<a p*b n
   ·refine⟨n,by omega,hPn.1,fun j hj hPj=>?_⟩
    rcases Nat.lt_or_ge j n with c|c
    ·have h1:=hmin j c hPj
     -- a n/b n<a p/b p<=a j/b j
     have hbp:=hb p hP
     have hbj:=hb j hPj
     have hbn:=hb n hPn.1
     have h2:a n*b j*b p<=a j*b n*b p:=by
      have e1:a n*b p*b j<=a p*b n*b j:=Int.mul_le_mul_of_nonneg_right (by omega) (by omega)
      have e2:a p*b j*b n<=a j*b p*b n:=Int.mul_le_mul_of_nonneg_right h1 (by omega)
      have e3:a n*b j*b p=a n*b p*b j:=by grind
      have e4:a p*b n*b j=a p*b j*b n:=by grind
      have e5:a j*b n*b p=a j*b p*b n:=by grind
      omega
     exact Int.le_of_mul_le_mul_right h2 hbp
    ·have:j=n:=by omega
     subst this;exact Int.le_refl _
   ·refine⟨p,by omega,hP,fun j hj hPj=>?_⟩
    rcases Nat.lt_or_ge j n with c|c
    ·exact hmin j c hPj
    ·have:j=n:=by omega
     subst this
     rcases Int.lt_or_le (a j*b p) (a p*b j)with h1|h1
     ·exact absurd ⟨hPj,h1⟩ hPn
     ·exact h1
  ·obtain⟨j,hj,hPj⟩:=h
   have:j=n:=by
    rcases Nat.lt_or_ge j n with c|c
    ·exact absurd ⟨j,c,hPj⟩ hn
    ·omega
   subst this
   exact⟨j,by omega,hPj,fun i hi hPi=>by
    rcases Nat.lt_or_ge i j with c|c
    ·exact absurd ⟨i,c,hPi⟩ hn
    ·have:i=j:=by omega
     subst this;exact Int.le_refl _⟩
theorem sm_nonpos{f:Nat->Int}:∀n:Nat,(∀j,j<n->f j<=0)->sm f n<=0
 |0,_=>Int.le_refl _
 |n+1,h=>by
  have:=sm_nonpos n (fun j hj=>h j (by omega))
  have:=h n (by omega)
  show sm f n+f n<=0
  omega
theorem dep_circ{M:List (List Int)}{n:Nat}(hM:MaskOk M n){S:List Int}(hS:zCL n S)(hne:zFG (zAR M S) S.length≠S.length):∃c,c∈circP M n∧c.length=n∧zDY M n (vec c)∧(∀j:Nat,vec c j≠0->(j:Int)∈S)∧∃j,j<n∧vec c j≠0:=by
 have hrk:=(hM.cols S).rank_ker
 have hkl:0<(zIR M S).length:=by
  show 0<(zMF (RP (zAR M S) S.length) (JP (zAR M S) S.length) S.length).length
  omega
 have hm:(zIR M S)[0]∈zIR M S:=List.getElem_mem _
 obtain⟨u,hu⟩:=exq ((zIR M S)[0])
 rw[<- hu]at hm
 obtain⟨k1,k2,k3,f,hf,k4⟩:=(hM.cols S).kern hm
 have hv:=(zFN (M:=M) hS).2 k1
 obtain⟨v,hve⟩:=exq (vec (zAV n S u S.length))
 have hnz:∃j,j<n∧v j≠0:=by
  have hf2:=hS.2 S[f] (List.getElem_mem hf)
  refine⟨(S[f]).toNat,by omega,?_⟩
  rw[hve]
  exact(zGL hS k2).2 ⟨f,hf,by omega,by omega⟩
 rw[<- hve]at hv
 obtain⟨T,c,hT,hTl,hTne,hSub,hcc⟩:=zMS hM (zBF n v).length v rfl hv hnz
 have hC:=zJW hM hT hTne hcc
 obtain⟨f1,f2,_,f4,f5⟩:=zNT hM hT hTne hcc
 refine⟨c,(circP_iff hM).2 hC,f1,f2,fun j hj=>?_,?_⟩
 ·have h1:=hSub _ ((zJC hM hT hcc j).1 hj)
  have h2:=(zCH.1 h1).2
  rw[hve]at h2
  obtain⟨i,hi,e,_⟩:=(zGL hS k2).1 h2
  rw[<- e];exact List.getElem_mem hi
 ·obtain⟨j0,hj0,e0,_⟩:=zHL c (by omega)
  exact⟨j0,by omega,by omega⟩
def CostB(M:List (List Int))(n:Nat)(l w:Nat->Int):Prop:=
 ∀c,c∈circP M n->∀e:Int,(e=1∨e= -1)->(∀j,j<n->vec c j≠0->l j≠0)->(∀j,j<n->l j*(e*vec c j)<=0)->sm (fun j=>w j*(e*vec c j)) n<=0
theorem lp_reduce{M:List (List Int)}{n:Nat}(hM:MaskOk M n){y:List Int}(w:Nat->Int):∀(s:Nat) (l:Nat->Int) (D:Int),(zBF n l).length=s->SolM M n y l D->CostB M n l w->
 ∃(k:Nat->Int) (E:Int),SolM M n y k E∧zFG (zAR M (zBF n k)) (zBF n k).length=(zBF n k).length∧(∀j,j<n->k j≠0->0<k j*l j)∧sm (fun j=>w j*k j) n*D<=sm (fun j=>w j*l j) n*E:=by
 intro s
 induction s using Nat.strongRecOn with
 |ind s ih=>
  intro l D hs hl hw
  by_cases hr:zFG (zAR M (zBF n l)) (zBF n l).length=(zBF n l).length
  ·refine⟨l,D,hl,hr,fun j hj h=>?_,Int.le_refl _⟩
   rcases Int.lt_or_gt_of_ne h with c|c
   ·exact Int.mul_pos_of_neg_of_neg c c
   ·exact Int.mul_pos c c
  ·obtain⟨c,hc,hcl,hck,hcs,hcn⟩:=dep_circ hM (zFA n l) hr
   have hsub:∀j,j<n->vec c j≠0->l j≠0:=fun j hj h=>(zCH.1 (hcs j h)).2
   -- the direction:the cost does not grow,and some number becomes less
   have hdir:∃e:Int,(e=1∨e= -1)∧0<=sm (fun j=>w j*(e*vec c j)) n∧∃j,j<n∧0<l j*(e*vec c j):=by
    have hneg:∀e:Int,sm (fun j=>w j*(-e*vec c j)) n= -sm (fun j=>w j*(e*vec c j)) n:=fun e=>by
     have:=zDK (-1) (fun j=>w j*(e*vec c j)) n
     rw[<- zAP (f:=fun j=> -1*(w j*(e*vec c j))) (g:=fun j=>w j*(-e*vec c j)) (fun j _=>by grind),this]
     omega
    have hex:∀e:Int,(e=1∨e= -1)->¬(∃j,j<n∧0<l j*(e*vec c j))->∀j,j<n->l j*(e*vec c j)<=0:=fun e _ h j hj=>by
     rcases Int.lt_or_le 0 (l j*(e*vec c j))with c1|c1
     ·exact absurd ⟨j,hj,c1⟩ h
     ·exact c1
    rcases Int.lt_trichotomy 0 (sm (fun j=>w j*(1*vec c j)) n)with c1|c1|c1
    ·by_cases h:∃j,j<n∧0<l j*(1*vec c j)
     ·exact⟨1,.inl rfl,by omega,h⟩
     ·have:=hw c hc 1 (.inl rfl) hsub (hex 1 (.inl rfl) h)
      omega
    ·obtain⟨j,hj,hcj⟩:=hcn
     have hlj:=hsub j hj hcj
     rcases Int.lt_or_gt_of_ne (Int.mul_ne_zero hlj hcj)with c2|c2
     ·refine⟨-1,.inr rfl,by rw[hneg 1];omega,j,hj,?_⟩
      have:l j*(-1*vec c j)= -(l j*vec c j):=by grind
      omega
     ·refine⟨1,.inl rfl,by omega,j,hj,?_⟩
      have:l j*(1*vec c j)=l j*vec c j:=by grind
      omega
    ·by_cases h:∃j,j<n∧0<l j*(-1*vec c j)
     ·exact⟨-1,.inr rfl,by rw[hneg 1];omega,h⟩
     ·have:=hw c hc (-1) (.inr rfl) hsub (hex (-1) (.inr rfl) h)
      rw[hneg 1]at this
      omega
   obtain⟨e,he,hσ,hpos⟩:=hdir
   have hen:e≠0:=by rcases he with h|h<;>omega
   obtain⟨h,hh⟩:∃h:Nat->Int,h=fun j=>e*vec c j:=⟨_,rfl⟩
   have hhk:∀q,q<M.length->sm (fun i=>rowv M q i*h i) n=0:=fun q hq=>by
    have:=hck q hq
    unfold dotS at this
    rw[zAP (g:=fun i=>e*(rowv M q i*vec c i)) (fun i _=>by rw[hh];grind),zDK,this]
    simp
   have hhs:∀j,j<n->h j≠0->l j≠0:=fun j hj hz=>hsub j hj fun hz2=>hz (by rw[hh];simp[hz2])
   have hσ':0<=sm (fun j=>w j*h j) n:=by rw[hh];exact hσ
   have hpos':∃j,j<n∧0<l j*h j:=by rw[hh];exact hpos
   clear hσ hpos
   -- the least ratio
   obtain⟨p,hp,hPp,hmin⟩:=min_ratio (P:=fun j=>0<l j*h j) (a:=fun j=>((l j).natAbs:Int)) (b:=fun j=>((h j).natAbs:Int)) (fun j _=>by omega) (fun j hj=>by
    have:h j≠0:=fun hz=>by rw[hz]at hj;simp at hj
    omega) n hpos'
   have hhp:h p≠0:=fun hz=>by rw[hz]at hPp;simp at hPp
   have hlp:l p≠0:=fun hz=>by rw[hz]at hPp;simp at hPp
   obtain⟨A,hA⟩:∃A:Int,A=((h p).natAbs:Int):=⟨_,rfl⟩
   obtain⟨B,hB⟩:∃B:Int,B=((l p).natAbs:Int):=⟨_,rfl⟩
   have hA0:0<A:=by omega
   have hB0:0<B:=by omega
   obtain⟨k,hk⟩:∃k:Nat->Int,k=fun j=>A*l j-B*h j:=⟨_,rfl⟩
   have hkp:k p=0:=by
    rw[hk,hA,hB]
    show((h p).natAbs:Int)*l p-((l p).natAbs:Int)*h p=0
    rcases Int.lt_or_gt_of_ne hhp with c1|c1
    ·have c2:l p<0:=by
      rcases Int.lt_or_gt_of_ne hlp with c2|c2
      ·exact c2
      ·have:=Int.mul_neg_of_pos_of_neg c2 c1;omega
     have e1:((h p).natAbs:Int)= -h p:=by omega
     have e2:((l p).natAbs:Int)= -l p:=by omega
     rw[e1,e2];grind
    ·have c2:0<l p:=by
      rcases Int.lt_or_gt_of_ne hlp with c2|c2
      ·have:=Int.mul_neg_of_neg_of_pos c2 c1;omega
      ·exact c2
     have e1:((h p).natAbs:Int)=h p:=by omega
     have e2:((l p).natAbs:Int)=l p:=by omega
     rw[e1,e2];grind
   have hkl0:∀j,j<n->k j≠0->l j≠0:=fun j hj hz hz2=>by
    apply hz
    have h0:h j=0:=Classical.byContradiction fun h1=>hhs j hj h1 hz2
    rw[hk];show A*l j-B*h j=0
    rw[hz2,h0];simp
   have hks:∀j,j<n->0<=k j*l j:=fun j hj=>by
    rw[hk]
    show 0<=(A*l j-B*h j)*l j
    have e1:(A*l j-B*h j)*l j=A*(l j*l j)-B*(l j*h j):=by grind
    rw[e1]
    have e2:0<=A*(l j*l j):=Int.mul_nonneg (by omega) (by
     rcases Int.lt_or_le (l j) 0 with c1|c1
     ·exact Int.le_of_lt (Int.mul_pos_of_neg_of_neg c1 c1)
     ·exact Int.mul_nonneg c1 c1)
    rcases Int.lt_or_le 0 (l j*h j)with c1|c1
    ·have h1:((l p).natAbs:Int)*((h j).natAbs:Int)<=((l j).natAbs:Int)*((h p).natAbs:Int):=hmin j hj c1
     rw[<- hA,<- hB]at h1
     -- B* |h j| <= |l j| *A,times|l j|
     have h2:B*((h j).natAbs:Int)*((l j).natAbs:Int)<=((l j).natAbs:Int)*A*((l j).natAbs:Int):=Int.mul_le_mul_of_nonneg_right h1 (by omega)
     have h3:((l j).natAbs:Int)*((l j).natAbs:Int)=l j*l j:=by rw[<- Int.natCast_mul,<- Int.natAbs_mul,Int.natAbs_of_nonneg];exact(by
      rcases Int.lt_or_le (l j) 0 with c1|c1
      ·exact Int.le_of_lt (Int.mul_pos_of_neg_of_neg c1 c1)
      ·exact Int.mul_nonneg c1 c1)
     have h4:((h j).natAbs:Int)*((l j).natAbs:Int)=l j*h j:=by rw[Int.mul_comm,<- Int.natCast_mul,<- Int.natAbs_mul,Int.natAbs_of_nonneg (by omega)]
     have h5:B*((h j).natAbs:Int)*((l j).natAbs:Int)=B*(l j*h j):=by rw[Int.mul_assoc,h4]
     have h6:((l j).natAbs:Int)*A*((l j).natAbs:Int)=A*(l j*l j):=by rw[<- h3];grind
     omega
    ·have:B*(l j*h j)<=0:=Int.mul_nonpos_of_nonneg_of_nonpos (by omega) c1
     omega
   have hsol:SolM M n y k (D*A):=by
    refine⟨Int.mul_pos hl.1 hA0,fun q hq=>?_⟩
    have e1:=hl.2 q hq
    have e2:=hhk q hq
    rw[zAP (g:=fun i=>A*(rowv M q i*l i)+(-B)*(rowv M q i*h i)) (fun i _=>by rw[hk];grind),zKG,zDK,zDK,e1,e2]
    grind
   have hlt:(zBF n k).length<s:=by
    rw[<- hs]
    have hn1:(zBF n k).Nodup:=(zFA n k).1.imp (fun h=>by omega)
    have hpm:(p:Int)∈zBF n l:=zCH.2 ⟨hp,hlp⟩
    have hpn:(p:Int)∉zBF n k:=fun hm=>(zCH.1 hm).2 hkp
    have:=zLZ (l:=(p:Int)::zBF n k) (m:=zBF n l) (List.nodup_cons.2 ⟨hpn,hn1⟩) (fun x hx=>by
     rcases List.mem_cons.1 hx with rfl|hx
     ·exact hpm
     ·have hb:=(zFA n k).2 x hx
      obtain⟨j,rfl⟩:∃j:Nat,x=(j:Int):=⟨x.toNat,by omega⟩
      obtain⟨h1,h2⟩:=zCH.1 hx
      exact zCH.2 ⟨h1,hkl0 j h1 h2⟩)
    simp at this
    omega
   have hw':CostB M n k w:=fun d hd f hf hdl hdn=>by
    refine hw d hd f hf (fun j hj hz=>hkl0 j hj (hdl j hj hz)) (fun j hj=>?_)
    by_cases hz:vec d j=0
    ·rw[hz];simp
    ·have hkj:=hdl j hj hz
     have h1:=hdn j hj
     have h2:=hks j hj
     have hlj:=hkl0 j hj hkj
     -- k and l have one sign
     rcases Int.lt_or_gt_of_ne hkj with c1|c1
     ·have c2:l j<0:=by
       rcases Int.lt_or_gt_of_ne hlj with c2|c2
       ·exact c2
       ·have:=Int.mul_neg_of_neg_of_pos c1 c2;omega
      have c3:0<=f*vec d j:=by
       rcases Int.lt_or_le (f*vec d j) 0 with c3|c3
       ·have:=Int.mul_pos_of_neg_of_neg c1 c3;omega
       ·exact c3
      exact Int.mul_nonpos_of_nonpos_of_nonneg (by omega) c3
     ·have c2:0<l j:=by
       rcases Int.lt_or_gt_of_ne hlj with c2|c2
       ·have:=Int.mul_neg_of_pos_of_neg c1 c2;omega
       ·exact c2
      have c3:f*vec d j<=0:=by
       rcases Int.lt_or_le 0 (f*vec d j)with c3|c3
       ·have:=Int.mul_pos c1 c3;omega
       ·exact c3
      exact Int.mul_nonpos_of_nonneg_of_nonpos (by omega) c3
   obtain⟨z,E,hz1,hz2,hz3,hz4⟩:=ih _ hlt k (D*A) rfl hsol hw'
   refine⟨z,E,hz1,hz2,fun j hj hzj=>?_,?_⟩
   ·have h1:=hz3 j hj hzj
    have hkj:k j≠0:=fun e0=>by rw[e0]at h1;simp at h1
    have h2:=hks j hj
    have hlj:=hkl0 j hj hkj
    rcases Int.lt_or_gt_of_ne hkj with c1|c1
    ·have c2:l j<0:=by
      rcases Int.lt_or_gt_of_ne hlj with c2|c2
      ·exact c2
      ·have:=Int.mul_neg_of_neg_of_pos c1 c2;omega
     have c3:z j<0:=by
      rcases Int.lt_or_le (z j) 0 with c3|c3
      ·exact c3
      ·have:=Int.mul_nonpos_of_nonneg_of_nonpos c3 (show k j<=0 by omega);omega
     exact Int.mul_pos_of_neg_of_neg c3 c2
    ·have c2:0<l j:=by
      rcases Int.lt_or_gt_of_ne hlj with c2|c2
      ·have:=Int.mul_neg_of_pos_of_neg c1 c2;omega
      ·exact c2
     have c3:0<z j:=by
      rcases Int.lt_or_le 0 (z j)with c3|c3
      ·exact c3
      ·have:=Int.mul_nonpos_of_nonpos_of_nonneg c3 (show 0<=k j by omega);omega
     exact Int.mul_pos c3 c2
   ·-- the cost
    have hcost:sm (fun j=>w j*k j) n=A*sm (fun j=>w j*l j) n-B*sm (fun j=>w j*h j) n:=by
     rw[zAP (g:=fun j=>A*(w j*l j)+(-B)*(w j*h j)) (fun i _=>by rw[hk];grind),zKG,zDK,zDK]
     have: -B*sm (fun j=>w j*h j) n= -(B*sm (fun j=>w j*h j) n):=by grind
     omega
    have hBσ:0<=B*sm (fun j=>w j*h j) n:=Int.mul_nonneg (by omega) hσ'
    have hE:=hz1.1
    have h1:sm (fun j=>w j*k j) n*E<=A*sm (fun j=>w j*l j) n*E:=Int.mul_le_mul_of_nonneg_right (by omega) (by omega)
    have h2:sm (fun j=>w j*z j) n*D*A<=sm (fun j=>w j*l j) n*E*A:=by
     have e1:sm (fun j=>w j*z j) n*D*A=sm (fun j=>w j*z j) n*(D*A):=by grind
     have e2:sm (fun j=>w j*l j) n*E*A=A*sm (fun j=>w j*l j) n*E:=by grind
     omega
    exact Int.le_of_mul_le_mul_right h2 hA0
end
section
def nrmI(l:Nat->Int)(n:Nat):Int:=sm (fun j=>((l j).natAbs:Int)) n
theorem nrmI_pos(l:Nat->Int):∀n,0<=nrmI l n
 |0=>Int.le_refl _
 |n+1=>by
  have:=nrmI_pos l n
  show 0<=nrmI l n+((l n).natAbs:Int)
  omega
def zCB(x:List Rt):Nat->Int×Int
 |0=>(0,1)
 |k+1=>((zCB x k).1*(zAG x k).2+(zCB x k).2*((zAG x k).1.natAbs:Int),(zCB x k).2*(zAG x k).2)
def nrmQ(x:List Rt):Int×Int:=zCB x x.length
theorem zFQ{x:List Rt}(h:∀k,0<(zAG x k).2):∀k,0<(zCB x k).2∧0<=(zCB x k).1
 |0=>⟨by show(0:Int)<1;omega,Int.le_refl _⟩
 |k+1=>by
  obtain⟨h1,h2⟩:=zFQ h k
  have h3:=h k
  exact⟨Int.mul_pos h1 h3,Int.add_nonneg (Int.mul_nonneg h2 (by omega)) (Int.mul_nonneg (by omega) (by omega))⟩
theorem zIN{x:List Rt}{l:Nat->Int}{D:Int}(hD:0<D)(hp:∀k,0<(zAG x k).2):∀n,(∀k,k<n->(zAG x k).1*D=l k*(zAG x k).2)->(zCB x n).1*D=(zCB x n).2*nrmI l n
 |0,_=>by simp[zCB,nrmI,sm]
 |n+1,h=>by
  have ih:=zIN hD hp n (fun k hk=>h k (by omega))
  have e:=h n (by omega)
  have e2:((zAG x n).1.natAbs:Int)*D=((l n).natAbs:Int)*(zAG x n).2:=by
   have h1:=congrArg Int.natAbs e
   rw[Int.natAbs_mul,Int.natAbs_mul]at h1
   have h2:=hp n
   have h3:(((zAG x n).1.natAbs*D.natAbs:Nat):Int)=(((l n).natAbs*(zAG x n).2.natAbs:Nat):Int):=by rw[h1]
   rw[Int.natCast_mul,Int.natCast_mul]at h3
   have h4:((D.natAbs:Nat):Int)=D:=by omega
   have h5:(((zAG x n).2.natAbs:Nat):Int)=(zAG x n).2:=by omega
   rw[h4,h5]at h3
   exact h3
  show((zCB x n).1*(zAG x n).2+(zCB x n).2*((zAG x n).1.natAbs:Int))*D=(zCB x n).2*(zAG x n).2*(nrmI l n+((l n).natAbs:Int))
  generalize (zCB x n).1=a at*
  generalize (zCB x n).2=b at*
  generalize (zAG x n).2=c at*
  generalize ((zAG x n).1.natAbs:Int)=u at*
  generalize ((l n).natAbs:Int)=v at*
  generalize nrmI l n=N at*
  have:(a*c+b*u)*D=(a*D)*c+b*(u*D):=by grind
  rw[this,ih,e2];grind
def sgnI(z:Int):Int:=if z<0 then-1 else if z=0 then 0 else 1
theorem zID(z:Int):sgnI z*z=(z.natAbs:Int):=by unfold sgnI;split<;>(try split)<;>omega
theorem sgnI_same{z k:Int}(h:k≠0->0<k*z):sgnI z*k=(k.natAbs:Int):=by
 by_cases hk:k=0
 ·subst hk;simp
 ·have h1:=h hk
  unfold sgnI
  rcases Int.lt_or_gt_of_ne hk with c|c
  ·have:z<0:=by
    rcases Int.lt_or_le z 0 with c2|c2
    ·exact c2
    ·have:=Int.mul_nonpos_of_nonpos_of_nonneg (show k<=0 by omega) c2;omega
   rw[if_pos this];omega
  ·have:0<z:=by
    rcases Int.lt_or_le 0 z with c2|c2
    ·exact c2
    ·have:=Int.mul_nonpos_of_nonneg_of_nonpos (show 0<=k by omega) c2;omega
   rw[if_neg (by omega),if_neg (by omega)];omega
theorem sgnI_opp{z h:Int}(h1:z*h<=0):sgnI z*h<=0:=by
 unfold sgnI
 split
 ·rename_i c
  rcases Int.lt_or_le h 0 with c2|c2
  ·have:=Int.mul_pos_of_neg_of_neg c c2;omega
  ·omega
 ·split
  ·simp
  ·rename_i c c1
   rcases Int.lt_or_le 0 h with c2|c2
   ·have:=Int.mul_pos (show 0<z by omega) c2;omega
   ·omega
theorem lp_norm{M:List (List Int)}{n:Nat}(hM:MaskOk M n){y:List Int}{l:Nat->Int}{D:Int}(hl:SolM M n y l D):
 ∃(k:Nat->Int) (E:Int),SolM M n y k E∧zFG (zAR M (zBF n k)) (zBF n k).length=(zBF n k).length∧(∀j,j<n->k j≠0->0<k j*l j)∧nrmI k n*D<=nrmI l n*E:=by
 obtain⟨k,E,h1,h2,h3,h4⟩:=lp_reduce hM (fun j=>sgnI (l j)) _ l D rfl hl (fun c hc e he hs ho=>sm_nonpos n fun j hj=>sgnI_opp (ho j hj))
 refine⟨k,E,h1,h2,h3,?_⟩
 have e1:sm (fun j=>sgnI (l j)*k j) n=nrmI k n:=zAP fun j hj=>sgnI_same (h3 j hj)
 have e2:sm (fun j=>sgnI (l j)*l j) n=nrmI l n:=zAP fun j hj=>zID _
 rw[e1,e2]at h4
 exact h4
end
section
theorem solve_vals{R:List (List Int)}{n:Nat}(he:(zAW R n).2=0):(zAW R n).1=(List.range n).map fun k=>ofF (vec ((pRed R n).1[k]?.getD []) n) (vec ((pRed R n).1[k]?.getD []) (jf (pRed R n).2 k)):=by
 unfold zAW at he⊢
 simp only[]at he⊢
 split at he
 ·simp at he
 ·rename_i h1
  split at he
  ·simp at he
  ·rename_i h2
   rw[if_neg h1,if_neg h2]
theorem zGN{M:List (List Int)}{n:Nat}(h:MaskOk M n){y:List Int}(hy:y.length=M.length)(hmil:∀v∈y,-1000000<=v∧v<=1000000)(he:(zAW (zAH M y) n).2=0):
 ∃(l:Nat->Int) (D:Int),0<D∧D<=288∧(∀k,k<n->(zAG (zAW (zAH M y) n).1 k).1*D=l k*(zAG (zAW (zAH M y) n).1 k).2)∧(∀k,k<n->(l k).natAbs<=720000000)∧
  SolM M n y l D∧(∀k,0<(zAG (zAW (zAH M y) n).1 k).2)∧zFG M n=n∧(∀k,zAJ (zAG (zAW (zAH M y) n).1 k)=true):=by
 obtain⟨hr,l',D',hD',k1,k2⟩:=solve_to h hy hmil he
 have hY:=h.addY hy (Y:=1000000) (by decide) (by simpa using hmil)
 have hi:=zCG (zAH M y) hY.wid n (fun j hj q=>zBZ (by decide) (fun r hr=>hY.one r hr j hj) q)
 have hpiv:=zLI h hy hY
 have hJl:(pRed (zAH M y) n).2.length=n:=by rw[hpiv];exact hr
 have hasc:(pRed (zAH M y) n).2=List.range' 0 n:=zLE hi.asc (fun x hx=>by have:=hi.lt x hx;omega) hJl
 have hjf:∀k,k<n->jf (pRed (zAH M y) n).2 k=k:=fun k hk=>by
  rw[hasc];unfold jf;rw[List.getElem?_range' hk];simp
 have hval:=solve_vals he
 have hat:∀k,k<n->zAG (zAW (zAH M y) n).1 k=ofF (rowv (pRed (zAH M y) n).1 k n) (rowv (pRed (zAH M y) n).1 k k):=fun k hk=>by
  rw[hval]
  unfold zAG
  rw[List.getElem?_map,List.getElem?_range hk]
  simp only[Option.map_some,Option.getD_some]
  rw[hjf k hk];rfl
 have hout:∀k,n<=k->zAG (zAW (zAH M y) n).1 k=(0,1):=fun k hk=>by
  rw[hval];unfold zAG
  rw[List.getElem?_eq_none (by simp;exact hk)];rfl
 have hJ1:∀x∈(pRed (zAH M y) n).2,∀r,-1<=rowv (zAH M y) r x∧rowv (zAH M y) r x<=1:=fun x hx r=>zBZ (by decide) (fun r hr=>hY.one r hr x (hi.lt x hx)) r
 have hpv:=fun k (hk:k<n)=>hi.piv_288 hY.le6 hJ1 (k:=k) (by omega)
 obtain⟨A,hs,hA⟩:=hi.st
 have hA1:∀k,k<(pRed (zAH M y) n).2.length->∀r,-1<=A r (jf (pRed (zAH M y) n).2 k)∧A r (jf (pRed (zAH M y) n).2 k)<=1:=by
  intro k hk r
  obtain⟨q0,e⟩:=hA r
  rw[e]
  exact hJ1 _ (by unfold jf;rw[List.getElem?_eq_getElem hk];exact List.getElem_mem hk) q0
 have hAY:∀r,-(1000000:Int)<=A r n∧A r n<=1000000:=fun r=>by
  obtain⟨q0,e⟩:=hA r
  rw[e]
  exact zBZ (c:=n) (by omega) (fun r hr=>zEL (P:=fun x=> -(1000000:Int)<=x∧x<=1000000) (by omega) (hY.all r hr) n) q0
 have hd288:=det_288 (zCP (jf (pRed (zAH M y) n).2) A (pRed (zAH M y) n).2.length) (fun x hx r=>by
  obtain⟨k,hk,rfl⟩:=zFR.1 hx
  exact hA1 k hk r) (zCK (pRed (zAH M y) n).2.length) (by rw[zET,zCV]) (by rw[zCV];exact Nat.le_trans hs.le hY.le6)
 have hd0:=hs.d0
 obtain⟨d,hd⟩:=exq (det (zCP (jf (pRed (zAH M y) n).2) A (pRed (zAH M y) n).2.length) (zCK (pRed (zAH M y) n).2.length))
 rw[<- hd]at hd288 hd0
 -- the minors
 have hmin:∀k,k<n->∃E:Int,E.natAbs<=720000000∧rowv (pRed (zAH M y) n).1 k k*E=d*rowv (pRed (zAH M y) n).1 k n:=by
  intro k hk
  have hk':k<(pRed (zAH M y) n).2.length:=by omega
  obtain⟨⟨s,hs2,e0⟩,e⟩:=hs.minorU hk'
  rw[<- hd]at e0
  have e1:=e n
  rw[e0,hjf k hk]at e1
  have hl:=(zFY (J:=jf (pRed (zAH M y) n).2) (A:=A) hk').2
  have hb:=det_le2 (c:=fun r=>A r n) hAY (zBN (jf (pRed (zAH M y) n).2) A k (pRed (zAH M y) n).2.length) (fun d hd r=>by obtain⟨k,hk,rfl⟩:=zDH hd;exact hA1 k hk r) (zCK (pRed (zAH M y) n).2.length) (by rw[zET];exact hl.symm)
  rw[hl]at hb
  have hK6:(pRed (zAH M y) n).2.length<=6:=Nat.le_trans hs.le hY.le6
  have hfact:∀a:Nat,a+1<=6->((a+1:Nat):Int)*(1000000*(fact a:Int))<=720000000:=fun a ha=>by
   have:a=0∨a=1∨a=2∨a=3∨a=4∨a=5:=by omega
   rcases this with rfl|rfl|rfl|rfl|rfl|rfl<;>decide
  have hf:=hfact (zBN (jf (pRed (zAH M y) n).2) A k (pRed (zAH M y) n).2.length).length (by omega)
  rw[hl]at hf
  refine⟨s*minorU (pRed (zAH M y) n).2.length (jf (pRed (zAH M y) n).2) A k n,?_,?_⟩
  ·have:(s*minorU (pRed (zAH M y) n).2.length (jf (pRed (zAH M y) n).2) A k n).natAbs=(minorU (pRed (zAH M y) n).2.length (jf (pRed (zAH M y) n).2) A k n).natAbs:=by
    rw[Int.natAbs_mul]
    rcases hs2 with rfl|rfl<;>simp
   rw[this]
   unfold minorU
   omega
  ·have h1:s*s=1:=by rcases hs2 with rfl|rfl<;>rfl
   generalize minorU (pRed (zAH M y) n).2.length (jf (pRed (zAH M y) n).2) A k n=E at*
   generalize rowv (pRed (zAH M y) n).1 k k=b at*
   generalize rowv (pRed (zAH M y) n).1 k n=a at*
   have:b*(s*E)=s*(b*E):=by grind
   rw[this,e1]
   have:s*(s*d*a)=(s*s)*(d*a):=by grind
   rw[this,h1];omega
 -- the values over|d|
 have key:∀k,k<n->∃E:Int,E.natAbs<=720000000∧(zAG (zAW (zAH M y) n).1 k).1*(d.natAbs:Int)=E*(zAG (zAW (zAH M y) n).1 k).2:=by
  intro k hk
  obtain⟨E,h1,h2⟩:=hmin k hk
  have hb:=(hpv k hk).1
  rw[hjf k hk]at hb
  rw[hat k hk,zLY hb]
  obtain⟨c1,_,_,_,c5⟩:=zCO (a:=rowv (pRed (zAH M y) n).1 k n) hb
  generalize rowv (pRed (zAH M y) n).1 k k=b at*
  generalize rowv (pRed (zAH M y) n).1 k n=a at*
  generalize zAQ a b=p at*
  obtain⟨p1,p2⟩:=p
  dsimp only at*
  have e1:b*(p1*d)=b*(E*p2):=by
   have:b*(p1*d)=(p1*b)*d:=by grind
   rw[this,c5]
   have:b*(E*p2)=(b*E)*p2:=by grind
   rw[this,h2];grind
  have e2:=Int.eq_of_mul_eq_mul_left (show b≠0 by omega) e1
  rcases Int.lt_or_le d 0 with c|c
  ·refine⟨-E,by omega,?_⟩
   have:(d.natAbs:Int)= -d:=by omega
   rw[this,Int.mul_neg,e2,Int.neg_mul]
  ·refine⟨E,h1,?_⟩
   have:(d.natAbs:Int)=d:=by omega
   rw[this,e2]
 have hpos:∀k,0<(zAG (zAW (zAH M y) n).1 k).2:=fun k=>by
  rcases Nat.lt_or_ge k n with hk|hk
  ·have hb:=(hpv k hk).1
   rw[hjf k hk]at hb
   rw[hat k hk,zLY hb]
   exact(zCO hb).1
  ·rw[hout k hk];decide
 have hex:∃l:Nat->Int,∀k,k<n->(l k).natAbs<=720000000∧(zAG (zAW (zAH M y) n).1 k).1*(d.natAbs:Int)=l k*(zAG (zAW (zAH M y) n).1 k).2:=by
  refine⟨fun k=>if hk:k<n then Classical.choose (key k hk)else 0,fun k hk=>?_⟩
  simp only[dif_pos hk]
  exact Classical.choose_spec (key k hk)
 obtain⟨l,hl⟩:=hex
 refine⟨l,(d.natAbs:Int),by omega,by omega,fun k hk=>(hl k hk).2,fun k hk=>(hl k hk).1,⟨by omega,fun q hq=>?_⟩,hpos,hr,fun k=>?_⟩
 ·-- the system
  have e1:=k1 q hq
  have e2:∀c,c<n->D'*(rowv M q c*l c)=(d.natAbs:Int)*(rowv M q c*l' c):=fun c hc=>by
   have h1:=(hl c hc).2
   have h2:=k2 c hc
   have hp:=hpos c
   generalize zAG (zAW (zAH M y) n).1 c=p at*
   obtain⟨p1,p2⟩:=p
   dsimp only at*
   have h3:p2*(l c*D')=p2*(l' c*(d.natAbs:Int)):=by
    have:p2*(l c*D')=(l c*p2)*D':=by grind
    rw[this,<- h1]
    have:p1*(d.natAbs:Int)*D'=(p1*D')*(d.natAbs:Int):=by grind
    rw[this,h2];grind
   have h4:=Int.eq_of_mul_eq_mul_left (show p2≠0 by omega) h3
   have:D'*(rowv M q c*l c)=rowv M q c*(l c*D'):=by grind
   rw[this,h4];grind
  have e3:D'*sm (fun i=>rowv M q i*l i) n=D'*(vec y q*(d.natAbs:Int)):=by
   rw[<- zDK,zAP e2,zDK,e1];grind
  exact Int.eq_of_mul_eq_mul_left (show D'≠0 by omega) e3
 ·rcases Nat.lt_or_ge k n with hk|hk
  ·have hb:=hpv k hk
   rw[hjf k hk]at hb
   rw[hat k hk,zLY hb.1]
   have b3:=sys_le hY k n
   obtain⟨c1,c2,c3,c4,_⟩:=zCO (a:=rowv (pRed (zAH M y) n).1 k n) hb.1
   rw[zBC]
   exact⟨by omega,by omega,by omega,by omega,c4⟩
  ·rw[hout k hk];decide
theorem nrmI_le{l:Nat->Int}{B:Nat}:∀n:Nat,(∀k,k<n->(l k).natAbs<=B)->nrmI l n<=((n*B:Nat):Int)
 |0,_=>by simp[nrmI,sm]
 |n+1,h=>by
  have h1:=nrmI_le n (fun k hk=>h k (by omega))
  have h2:=h n (by omega)
  show nrmI l n+((l n).natAbs:Int)<=_
  rw[Nat.succ_mul];omega
theorem solve_norm{M:List (List Int)}{n:Nat}(h:MaskOk M n){y:List Int}(hy:y.length=M.length)(hmil:∀v∈y,-1000000<=v∧v<=1000000)(he:(zAW (zAH M y) n).2=0):
 0<(zCB (zAW (zAH M y) n).1 n).2∧zAJ (zAQ (zCB (zAW (zAH M y) n).1 n).1 (zCB (zAW (zAH M y) n).1 n).2)=true:=by
 obtain⟨l,D,hD,hD288,h1,h2,_,hp,hr,_⟩:=zGN h hy hmil he
 obtain⟨p1,p2⟩:=zFQ hp n
 refine⟨p1,?_⟩
 have e:=zIN hD hp n h1
 have hn6:n<=6:=by have:=rank_le h;have:=h.le6;omega
 have hl:=nrmI_le n h2
 have hN:=nrmI_pos l n
 have e2:zAQ (zCB (zAW (zAH M y) n).1 n).1 (zCB (zAW (zAH M y) n).1 n).2=zAQ (nrmI l n) D:=zGP p1 hD (by rw[e,Int.mul_comm])
 rw[e2]
 obtain⟨c1,c2,c3,c4,_⟩:=zCO (a:=nrmI l n) hD
 have:n*720000000<=6*720000000:=Nat.mul_le_mul_right _ hn6
 rw[zBC]
 exact⟨by omega,by omega,by omega,by omega,c4⟩
end
section
open Go.RowKit
def fitsR(M:Mask)(y:List Int)(k:Int):List FitT:=(allF M y).filter (fun f=>decide ((f.1.length:Int)<=k))
end
section
open Go.RowKit
theorem zEK{M:Mask}{y:List Int}{f:FitT}(h:f∈allF M y):zCL (zAE M) f.1∧f.2.length=f.1.length∧f.1.length<=zAE M:=by
 unfold allF at h
 obtain⟨S,hS,e⟩:=List.mem_filterMap.1 h
 obtain⟨h1,h2⟩:=fitF_len e
 rw[h1]
 exact⟨(zPG hS).2,h2,(zPG hS).1⟩
end
section
theorem lvls_fits(M:Mask)(y:List Int)(n:Nat):∀k,(lvls n k).filterMap (fitF M y)=zBO M y n (k+1)
 |0=>by
  rw[zCJ]
  show(comb n 0 0).filterMap (fitF M y)=zBO M y n 0++_
  simp[zBO]
 |k+1=>by
  rw[zCJ,<- lvls_fits M y n k]
  show(lvls n k++comb n (k+1) 0).filterMap (fitF M y)=_
  rw[List.filterMap_append]
theorem allF_to(M:Mask)(y:List Int):allF M y=zBO M y (zAE M) (zAE M+1):=lvls_fits M y _ _
theorem fits_size{M:Mask}{y:List Int}{W j:Nat}{f:FitT}(h:f∈(comb W j 0).filterMap (fitF M y)):f.1.length=j:=by
 obtain⟨S,hS,e⟩:=List.mem_filterMap.1 h
 rw[(fitF_len e).1]
 exact zCR _ _ _ _ hS
theorem fits_cut(M:Mask)(y:List Int)(W k:Nat):∀t,(zBO M y W t).filter (fun f=>decide ((f.1.length:Int)<=(k:Int)))=zBO M y W (min t (k+1))
 |0=>by simp[zBO]
 |t+1=>by
  rw[zCJ,List.filter_append,fits_cut M y W k t]
  rcases Nat.lt_or_ge k t with h|h
  ·have h1:((comb W t 0).filterMap (fitF M y)).filter (fun f=>decide ((f.1.length:Int)<=(k:Int)))=[]:=by
    rw[List.filter_eq_nil_iff]
    intro f hf
    have:=fits_size hf
    simp;omega
   rw[h1,List.append_nil,show min t (k+1)=k+1 by omega,show min (t+1) (k+1)=k+1 by omega]
  ·have h1:((comb W t 0).filterMap (fitF M y)).filter (fun f=>decide ((f.1.length:Int)<=(k:Int)))=(comb W t 0).filterMap (fitF M y):=by
    rw[List.filter_eq_self]
    intro f hf
    have:=fits_size hf
    simp;omega
   rw[h1,show min t (k+1)=t by omega,show min (t+1) (k+1)=t+1 by omega,zCJ]
theorem fit_long{M:Mask}{y S:List Int}(h:M.length<S.length):fitF M y S=none:=by
 unfold fitF
 rw[if_neg]
 rintro⟨h0,_⟩
 unfold zBX at h0
 split at h0
 ·rename_i hc
  obtain⟨hM,hy,hyB,hS⟩:=zHP hc
  have hmo:=(zCW hM).1
  have hY:=(hmo.cols S).addY (y:=y) (by rw[zBJ];exact hy) (Y:=1000000) (by decide) (fun v hv=>by
   unfold milB at hyB
   have:=List.all_eq_true.1 hyB v hv
   unfold inB at this
   simp at this;omega)
  have hi:=zCG (zAH (zAR M S) y) hY.wid S.length (fun j hj q=>zBZ (by decide) (fun r hr=>hY.one r hr j hj) q)
  have hk:=hi.K_le
  rw[zDR (by rw[zBJ];exact hy),zBJ]at hk
  unfold zAW at h0
  simp only[]at h0
  split at h0
  ·simp at h0
  ·split at h0
   ·simp at h0
   ·omega
 ·rename_i hc;exact hc h0
theorem fits_long(M:Mask)(y:List Int)(W:Nat):∀d,zBO M y W (M.length+1+d)=zBO M y W (M.length+1)
 |0=>rfl
 |d+1=>by
  rw[show M.length+1+(d+1)=(M.length+1+d)+1 by omega,zCJ,fits_long M y W d]
  have h1:(comb W (M.length+1+d) 0).filterMap (fitF M y)=[]:=by
   rw[List.filterMap_eq_nil_iff]
   intro S hS
   refine fit_long ?_
   rw[zCR _ _ _ _ hS];omega
  rw[h1,List.append_nil]
theorem fits_same(M:Mask)(y:List Int)(k:Nat):fitsR M y (k:Int)=zBH M y k:=by
 unfold fitsR zBH
 rw[allF_to,fits_cut]
 rcases Nat.lt_or_ge M.length (min k (zAE M))with h|h
 ·obtain⟨d,hd⟩:∃d,min (zAE M+1) (k+1)=M.length+1+d:=⟨min (zAE M+1) (k+1)-(M.length+1),by omega⟩
  rw[hd,fits_long,show min (min k (zAE M)) M.length+1=M.length+1 by omega]
 ·rw[show min (zAE M+1) (k+1)=min (min k (zAE M)) M.length+1 by omega]
end
section
open Go.RowKit
theorem light_c(w:World)(a:Option Addr)(n cap:Nat)(M:Mask)(hn:M.length=n)(hm:n<=maxLen)(H:zAM w a M):
 Calls Tryz.prog 16 #[.slice a n cap] w fun e w'=>SomeB e∧w=w':=by
 have HN:=hid hn
 have HH:=hid H
 clear hn H
 unfold maxLen at hm
 go_enter Tryz.func16,Tryz.ntmps16
 go_wp2
 go_loop [3,8] (fun s i=>∃k:Nat,k<=n∧i=.int .i64 k∧∃z:Int,s=.int .i64 z) (fun _ i=>n-(intOf i).toNat)
 case atStart=>exact⟨0,Nat.zero_le _,rfl,_,rfl⟩
 case round=>
  obtain⟨k,hk,rfl,z,rfl⟩:=hrel
  by_cases hlt:k<n
  ·have hkl:k<M.length:=by rw[HN.out];exact hlt
   obtain⟨b,off,ra,rn,rc,rfl,hbs,hq0,hrn,hrm,hri⟩:=HH.out k hkl
   clear hrn hri hkl hrm
   by_cases h7:(7:Int)<(rn:Int)
   ·by_cases h10:(rn:Int)<=10
    ·go_wp2
     go_ret
     exact⟨⟨_,rfl⟩,rfl⟩
    ·go_wp2
     go_round
     case rel=>exact⟨k+1,by omega,by go_num,_,rfl⟩
     case measure=>simp[intOf];omega
   ·go_wp2
    go_round
    case rel=>exact⟨k+1,by omega,by go_num,_,rfl⟩
    case measure=>simp[intOf];omega
  ·go_wp2
   go_ret
   exact⟨⟨_,rfl⟩,rfl⟩
end
section
open Go.RowKit
theorem named_of{W:Nat}{l:List Int}(h:zCL W l):zDW W l=0:=by
 have h1:ascB l=true:=by
  unfold ascB
  rw[decide_eq_true_eq]
  intro i hi
  rw[List.getElem?_eq_getElem (by omega),List.getElem?_eq_getElem (by omega)]
  exact List.pairwise_iff_getElem.1 h.1 i (i+1) (by omega) (by omega) (by omega)
 unfold zDW
 rw[if_pos h1,if_pos]
 rw[List.all_eq_true]
 intro p hp
 have:=h.2 p hp
 unfold inB;simp;omega
theorem pix_of{M:Mask}{S:List Int}(hM:okM M=true)(h:zCL (zAE M) S):pixE M S=0:=by unfold pixE;rw[if_pos hM,named_of h]
theorem zPF{M:Mask}{y S:List Int}(hM:okM M=true)(hy:y.length=M.length)(hmil:milB y=true)(h:zCL (zAE M) S):zAZ M y S=0:=by
 unfold zAZ;rw[if_pos hM,if_pos hy,if_pos hmil,pix_of hM h]
end
section
theorem fits_mem{M:Mask}{y:List Int}(hM:okM M=true)(hy:y.length=M.length)(hmil:milB y=true){f:FitT}:f∈zBH M y 10↔∃S,zCL (zAE M) S∧fitF M y S=some f:=by
 obtain⟨hO,hm1,_,hc1,hc10⟩:=zCW hM
 have hmil':∀v∈y,-1000000<=v∧v<=1000000:=fun v hv=>by have:=zHH hmil v hv;omega
 unfold zBH zBO
 rw[List.mem_flatMap]
 constructor
 ·rintro⟨j,_,hj⟩
  obtain⟨S,hS,hf⟩:=List.mem_filterMap.1 hj
  exact⟨S,comb_ok hS,hf⟩
 ·rintro⟨S,hS,hf⟩
  obtain⟨_,h1,_⟩:=zLB hf
  have hsv:zBX M S y=zAW (zAH (zAR M S) y) S.length:=by unfold zBX;rw[if_pos (zPF hM hy hmil hS)]
  rw[hsv]at h1
  obtain⟨hr,_⟩:=solve_to (hO.cols S) (by rw[zBJ];exact hy) hmil' h1
  have hrk:=rank_le (hO.cols S)
  rw[hr,zBJ]at hrk
  have hW:=set_le hS
  refine⟨S.length,List.mem_range.2 (by omega),List.mem_filterMap.2 ⟨S,zJA (zAE M) 0 S hS.1 (fun y hy=>by have:=hS.2 y hy;omega),hf⟩⟩
theorem sum_supp{n:Nat}{k:Nat->Int}(r:Nat->Int):sm (fun i=>zFP (zBF n k) r i*vec ((zBF n k).map fun j=>k j.toNat) i) (zBF n k).length=sm (fun c=>r c*k c) n:=by
 have hS:=zFA n k
 rw[<- zHM hS r _ (Nat.le_refl _)]
 unfold dotS
 refine zAP fun c hc=>?_
 rw[zHR hS (fun j hj hm=>?_) hc]
 rcases Classical.em (k j=0)with c|c
 ·exact c
 ·exact absurd (zCH.2 ⟨hj,c⟩) hm
theorem nrm_supp{n:Nat}{k:Nat->Int}:nrmI (vec ((zBF n k).map fun j=>k j.toNat)) (zBF n k).length=nrmI k n:=by
 have h:=sum_supp (n:=n) (k:=k) (fun c=>sgnI (k c))
 have e1:sm (fun c=>sgnI (k c)*k c) n=nrmI k n:=zAP fun c _=>zID _
 rw[e1]at h
 rw[<- h]
 refine zAP fun i hi=>?_
 have e2:vec ((zBF n k).map fun j=>k j.toNat) i=k ((zBF n k)[i]).toNat:=by unfold vec;rw[List.getElem?_map,List.getElem?_eq_getElem hi];rfl
 have e3:zFP (zBF n k) (fun c=>sgnI (k c)) i=sgnI (k ((zBF n k)[i]).toNat):=by unfold zFP;rw[List.getElem?_eq_getElem hi]
 rw[e2,e3,zID]
theorem fit_of_sol{M:Mask}{y:List Int}(hM:okM M=true)(hy:y.length=M.length)(hmil:milB y=true){k:Nat->Int}{E:Int}(hk:SolM M (zAE M) y k E)(hr:zFG (zAR M (zBF (zAE M) k)) (zBF (zAE M) k).length=(zBF (zAE M) k).length):
 ∃f,f∈zBH M y 10∧f.1=zBF (zAE M) k∧f.2.length=f.1.length∧(∀i,i<f.1.length->(zAG f.2 i).1*E=k ((f.1[i]?.getD 0).toNat)*(zAG f.2 i).2)∧(∀i,0<(zAG f.2 i).2)∧(nrmQ f.2).1*E=(nrmQ f.2).2*nrmI k (zAE M)∧0<(nrmQ f.2).2:=by
 obtain⟨hO,hm1,_,hc1,hc10⟩:=zCW hM
 have hmil':∀v∈y,-1000000<=v∧v<=1000000:=fun v hv=>by have:=zHH hmil v hv;omega
 have hS:=zFA (zAE M) k
 have hy':y.length=(zAR M (zBF (zAE M) k)).length:=by rw[zBJ];exact hy
 have hsys:∀q,q<(zAR M (zBF (zAE M) k)).length->sm (fun i=>rowv (zAR M (zBF (zAE M) k)) q i*vec ((zBF (zAE M) k).map fun j=>k j.toNat) i) (zBF (zAE M) k).length=vec y q*E:=by
  intro q hq
  rw[zBJ]at hq
  rw[zHO,sum_supp,hk.2 q hq]
 obtain⟨k1,k2,k3⟩:=solve_of (hO.cols _) hy' hmil' hr (show E≠0 by have:=hk.1;omega) hsys
 obtain⟨_,_,_,_,_,_,_,hpos,_,_⟩:=zGN (hO.cols _) hy' hmil' k1
 have hsv:zBX M (zBF (zAE M) k) y=zAW (zAH (zAR M (zBF (zAE M) k)) y) (zBF (zAE M) k).length:=by unfold zBX;rw[if_pos (zPF hM hy hmil hS)]
 have hvk:∀i (hi:i<(zBF (zAE M) k).length),vec ((zBF (zAE M) k).map fun j=>k j.toNat) i=k ((zBF (zAE M) k)[i]).toNat:=fun i hi=>by unfold vec;rw[List.getElem?_map,List.getElem?_eq_getElem hi];rfl
 obtain⟨P,hP⟩:=exq (zAW (zAH (zAR M (zBF (zAE M) k)) y) (zBF (zAE M) k).length)
 rw[<- hP]at k1 k2 k3 hpos hsv
 have hfit:fitF M y (zBF (zAE M) k)=some (zBF (zAE M) k,P.1):=by
  unfold fitF
  rw[hsv,if_pos]
  refine⟨k1,List.all_eq_true.2 fun r hr=>?_⟩
  obtain⟨i,hi,rfl⟩:=List.mem_iff_getElem.1 hr
  have hi':i<(zBF (zAE M) k).length:=by omega
  obtain⟨c1,c2,_⟩:=k3 i hi'
  have e1:zAG P.1 i=P.1[i]:=by unfold zAG;rw[List.getElem?_eq_getElem hi];rfl
  rw[e1,hvk i hi']at c1
  rw[e1]at c2
  have h0:k ((zBF (zAE M) k)[i]).toNat≠0:=by
   have hm:=List.getElem_mem hi'
   have hb:=hS.get hi'
   rw[show(zBF (zAE M) k)[i]=((((zBF (zAE M) k)[i]).toNat:Nat):Int)by omega]at hm
   exact(zCH.1 hm).2
  rw[decide_eq_true_eq]
  intro e
  rw[e,Int.zero_mul]at c1
  exact Int.mul_ne_zero h0 (by omega) c1.symm
 have hvals:∀i,i<(zBF (zAE M) k).length->(zAG P.1 i).1*E=vec ((zBF (zAE M) k).map fun j=>k j.toNat) i*(zAG P.1 i).2:=fun i hi=>(k3 i hi).1
 have hn:=zIN hk.1 hpos (zBF (zAE M) k).length hvals
 rw[nrm_supp]at hn
 have hq:nrmQ P.1=zCB P.1 (zBF (zAE M) k).length:=by unfold nrmQ;rw[k2]
 refine⟨(zBF (zAE M) k,P.1),(fits_mem hM hy hmil).2 ⟨_,hS,hfit⟩,rfl,k2,fun i hi=>?_,hpos,by rw[hq];exact hn,by rw[hq];exact(zFQ hpos _).1⟩
 have hi':i<(zBF (zAE M) k).length:=hi
 have:=hvals i hi'
 rw[hvk i hi']at this
 show(zAG P.1 i).1*E=k (((zBF (zAE M) k)[i]?.getD 0).toNat)*(zAG P.1 i).2
 rw[List.getElem?_eq_getElem hi']
 exact this
theorem fits_least{M:Mask}{y:List Int}(hM:okM M=true)(hy:y.length=M.length)(hmil:milB y=true){l:Nat->Int}{D:Int}(hl:SolM M (zAE M) y l D):
 ∃f,f∈zBH M y 10∧0<(nrmQ f.2).2∧(nrmQ f.2).1*D<=nrmI l (zAE M)*(nrmQ f.2).2:=by
 obtain⟨hO,_⟩:=zCW hM
 obtain⟨k,E,h1,h2,_,h4⟩:=lp_norm hO hl
 obtain⟨f,f1,_,_,_,_,f2,f3⟩:=fit_of_sol hM hy hmil h1 h2
 refine⟨f,f1,f3,?_⟩
 have hE:=h1.1
 -- (n*D)*E<=(N*d)*E
 have e:(nrmQ f.2).1*D*E<=nrmI l (zAE M)*(nrmQ f.2).2*E:=by
  have e1:(nrmQ f.2).1*D*E=(nrmQ f.2).2*(nrmI k (zAE M)*D):=by
   have:(nrmQ f.2).1*D*E=((nrmQ f.2).1*E)*D:=by grind
   rw[this,f2];grind
  have e2:nrmI l (zAE M)*(nrmQ f.2).2*E=(nrmQ f.2).2*(nrmI l (zAE M)*E):=by grind
  rw[e1,e2]
  exact Int.mul_le_mul_of_nonneg_left h4 (by omega)
 exact Int.le_of_mul_le_mul_right e hE
theorem zDM{M:Mask}{y:List Int}(hM:okM M=true)(hy:y.length=M.length)(hmil:milB y=true){f:FitT}(hf:f∈zBH M y 10):
 zCL (zAE M) f.1∧f.2.length=f.1.length∧f.2.all zAJ=true∧(∀r∈f.2,r.1≠0)∧0<(nrmQ f.2).2∧zAJ (zAQ (nrmQ f.2).1 (nrmQ f.2).2)=true∧zFG (zAR M f.1) f.1.length=f.1.length∧
  ∃(l:Nat->Int) (D:Int),SolM M (zAE M) y l D∧D<=288∧(∀c,c<zAE M->(c:Int)∉f.1->l c=0)∧(∀i (hi:i<f.1.length),(zAG f.2 i).1*D=l (f.1[i]).toNat*(zAG f.2 i).2)∧(nrmQ f.2).1*D=(nrmQ f.2).2*nrmI l (zAE M):=by
 obtain⟨hO,hm1,_,hc1,hc10⟩:=zCW hM
 have hmil':∀v∈y,-1000000<=v∧v<=1000000:=fun v hv=>by have:=zHH hmil v hv;omega
 obtain⟨S,hS,hfit⟩:=(fits_mem hM hy hmil).1 hf
 obtain⟨rfl,h1,h2⟩:=zLB hfit
 have hsv:zBX M S y=zAW (zAH (zAR M S) y) S.length:=by unfold zBX;rw[if_pos (zPF hM hy hmil hS)]
 rw[hsv]at h1 h2⊢
 have hy':y.length=(zAR M S).length:=by rw[zBJ];exact hy
 obtain⟨l,D,hD,hD288,k1,_,k3,hpos,hr,hv⟩:=zGN (hO.cols S) hy' hmil' h1
 obtain⟨n1,n2⟩:=solve_norm (hO.cols S) hy' hmil' h1
 have hlen:=zNE h1
 obtain⟨P,hP⟩:=exq ((zAW (zAH (zAR M S) y) S.length).1)
 rw[<- hP]at h2 k1 hpos hv n1 n2 hlen⊢
 have hq:nrmQ P=zCB P S.length:=by unfold nrmQ;rw[hlen]
 -- spread
 have hL:((List.range S.length).map l).length=S.length:=by simp
 have hvL:∀i,i<S.length->vec ((List.range S.length).map l) i=l i:=fun i hi=>by unfold vec;rw[List.getElem?_map,List.getElem?_range hi];rfl
 have hin:∀i (hi:i<S.length),vec (zAV (zAE M) S ((List.range S.length).map l) S.length) (S[i]).toNat=l i:=fun i hi=>by
  rw[zDS hS S.length (Nat.le_refl _) i hi hi]
  exact hvL i hi
 have hsum:∀r:Nat->Int,sm (fun i=>zFP S r i*l i) S.length=sm (fun c=>r c*vec (zAV (zAE M) S ((List.range S.length).map l) S.length) c) (zAE M):=fun r=>by
  have:=zHM (l:=(List.range S.length).map l) hS r S.length (Nat.le_refl _)
  unfold dotS at this
  rw[this]
  exact zAP fun i hi=>by rw[hvL i hi]
 refine⟨hS,hlen,List.all_eq_true.2 fun r hr=>?_,h2,by rw[hq];exact n1,by rw[hq];exact n2,hr,vec (zAV (zAE M) S ((List.range S.length).map l) S.length),D,⟨hD,fun q hq=>?_⟩,hD288,fun c hc hn=>zFM hS hn S.length (Nat.le_refl _),fun i hi=>by rw[hin i hi];exact k1 i hi,?_⟩
 ·obtain⟨i,hi,rfl⟩:=List.mem_iff_getElem.1 hr
  have:=hv i
  unfold zAG at this
  rw[List.getElem?_eq_getElem hi]at this
  exact this
 ·have:=k3.2 q (by rw[zBJ];exact hq)
  rw[zHO,hsum]at this
  exact this
 ·rw[hq,zIN hD hpos S.length k1]
  congr 1
  have h:=hsum (fun c=>sgnI (vec (zAV (zAE M) S ((List.range S.length).map l) S.length) c))
  have e1:sm (fun c=>sgnI (vec (zAV (zAE M) S ((List.range S.length).map l) S.length) c)*vec (zAV (zAE M) S ((List.range S.length).map l) S.length) c) (zAE M)=nrmI (vec (zAV (zAE M) S ((List.range S.length).map l) S.length)) (zAE M):=zAP fun c _=>zID _
  rw[e1]at h
  rw[<- h]
  refine zAP fun i hi=>?_
  have e3:zFP S (fun c=>sgnI (vec (zAV (zAE M) S ((List.range S.length).map l) S.length) c)) i=sgnI (l i):=by
   unfold zFP;rw[List.getElem?_eq_getElem hi]
   simp only[]
   rw[hin i hi]
  rw[e3,zID]
end
end Go.Proofs.YtlffndehhhpgjaaGreat
