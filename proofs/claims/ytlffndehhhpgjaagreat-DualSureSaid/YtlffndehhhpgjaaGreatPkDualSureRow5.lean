/- Walks and plain laws for DualSureRow, part 5. -/
import Derived.Lib.SliceRun
import Derived.Maps.AppendAt
import Derived.Laws.MakeOwn
import Derived.WalkSpells
import Derived.BigQuiet
import Derived.Shelf.Bits.Mul64
import Derived.Shelf.Spec.BitsCarry
import Derived.Test.YtlffndehhhpgjaaGreatPkDualSureRow4
namespace Go.Proofs.YtlffndehhhpgjaaGreat
set_option linter.unusedVariables false
set_option linter.unusedSimpArgs false
set_option maxRecDepth 100000
set_option maxHeartbeats 4000000
section
section
open Go.RowKit
abbrev Rt:=Int×Int
def ratV(r:Rt):Value:=.agg #[.int .i64 r.1,.int .i64 r.2]
def zAV(r:Rt):List Value:=[.int .i64 r.1,.int .i64 r.2]
def zAK(l:List Rt):List Value:=l.flatMap zAV
theorem zJM(l:List Rt)(f:Rt):zAK (l++[f])=zAK l++zAV f:=by simp[zAK]
theorem zBF(l:List Rt):(zAK l).length=l.length*2:=by
 induction l with
 |nil=>rfl
 |cons f l ih=>show(zAV f++zAK l).length=_;rw[List.length_append,ih];simp[zAV];omega
theorem zEB(l:List Rt):∀(j i:Nat) (hj:j<l.length),i<2->(zAK l)[j*2+i]? =(zAV l[j])[i]? :=by
 induction l with
 |nil=>intro j i hj;simp at hj
 |cons f l ih=>
  intro j i hj hi
  show(zAV f++zAK l)[j*2+i]? =_
  cases j with
  |zero=>rw[List.getElem?_append_left (by simp[zAV];omega)];simp
  |succ j=>
   rw[List.getElem?_append_right (by simp[zAV];omega)]
   have:=ih j i (by simpa using hj) hi
   rw[show(j+1)*2+i-(zAV f).length=j*2+i by simp[zAV];omega,this]
   simp
def zBX(w:World)(a:Option Addr)(l:List Rt):Prop:=
 ∀j (hj:j<l.length),∃b off,a=some ⟨b,off,none⟩∧b<w.heap.size∧w.cell? ⟨b,off+j*2,none⟩=some (.int .i64 l[j].1)∧w.cell? ⟨b,off+j*2+1,none⟩=some (.int .i64 l[j].2)
theorem zBX.below{w w':World}{a:Option Addr}{l:List Rt}(h:zBX w a l)(hb:Below w.heap.size w w'):zBX w' a l:=by
 intro j hj
 obtain⟨b,off,e,hlt,h0,h1⟩:=h j hj
 exact⟨b,off,e,Nat.lt_of_lt_of_le hlt hb.size,(hb.cell (p:=⟨b,_,none⟩) hlt).trans h0,(hb.cell (p:=⟨b,_,none⟩) hlt).trans h1⟩
def zEM(W:World)(base:Nat)(v:Value)(l:List Rt):Prop:=W.ownsRow base 29 2 v l.length (zAK l)
theorem zEM.nil(W:World)(base:Nat):zEM W base (.slice none 0 0) []:=World.ownsRow_nil _ _ _ _
theorem zEM.below{W W':World}{base:Nat}{v:Value}{l:List Rt}(h:zEM W base v l)(hb:Below W.heap.size W W'):zEM W' base v l:=zBQ h hb
theorem zEM.reads{W:World}{base:Nat}{v:Value}{l:List Rt}(h:zEM W base v l):∃a cap,v=.slice a l.length cap∧l.length<=maxLen∧zBX W a l:=by
 rcases h.2 with⟨rfl,h0⟩|⟨g,cap,cur,rfl,hbg,hgg,hnc,hcm,hsz,htk⟩
 ·exact⟨none,0,by rw[h0],by rw[h0];decide,fun j hj=>by omega⟩
 ·refine⟨_,cap,rfl,by omega,fun j hj=>⟨g,0,rfl,(Array.getElem?_eq_some_iff.1 hgg).1,?_⟩⟩
  have hc:∀i,i<l.length*2->W.cell? ⟨g,i,none⟩=(zAK l)[i]? :=fun i hi=>
   World.ownsRow.cellAt (w:=W) (base:=base) (e:=29) (size:=2) (g:=g) (n:=l.length) (cap:=cap) (xs:=zAK l) ⟨h.1,.inr ⟨g,cap,cur,rfl,hbg,hgg,hnc,hcm,hsz,htk⟩⟩ i hi
  refine⟨?_,?_⟩
  ·rw[Nat.zero_add,hc _ (by omega)];exact zEB l j 0 hj (by omega)
  ·rw[Nat.zero_add,hc _ (by omega)];exact zEB l j 1 hj (by omega)
theorem zIU:(Tryz.prog.info? 29).map (fun i=>(i.zero,i.size,i.bytes))=some (some (.agg #[.int .i64 0,.int .i64 0]),2,16):=by kernel_rfl
theorem zMW(f:Rt):∀u∈zAV f,u.oneCell'=true:=by
 intro u hu
 simp only[zAV,List.mem_cons,List.not_mem_nil,or_false]at hu
 rcases hu with rfl|rfl<;>rfl
theorem rat_news(w:World)(f:Rt)(T:TypeId):∀ad,(some ⟨w.heap.size,0,none⟩:Option Addr)=some ad->∀j u,(zAV f)[j]? =some u->(w.alloc (.cells (zAV f).toArray T)).cell? (ad.add j)=some u:=by
 intro ad e j u hu
 cases e
 rw[Addr.add_lit,World.cell?_alloc_at _ _ _ _ rfl]
 simpa using hu
theorem zHC{x g:Int}(hx: -4611686018427387904<=x∧x<=4611686018427387904): -4611686018427387904<=x.tdiv g∧x.tdiv g<=4611686018427387904:=by
 have h:=Int.natAbs_tdiv x g
 have h2:(x.tdiv g).natAbs<=x.natAbs:=by rw[Int.natAbs_tdiv];exact Nat.div_le_self _ _
 omega
theorem of_c(w:World)(n d:Int)(hn: -4611686018427387904<=n∧n<=4611686018427387904)(hd: -4611686018427387904<=d∧d<=4611686018427387904)(h0:d≠0):
 Calls Tryz.prog 152 #[.int .i64 n,.int .i64 d] w fun e w'=>e=.returned (ratV (ofF n d))∧Below w.heap.size w w':=by
 have HD:=hid (fun(X:World)=>zIB X n d hn hd)
 have hg0:0<Int.gcd n d:=Nat.pos_of_ne_zero (fun h=>h0 (Int.gcd_eq_zero_iff.1 h).2)
 have hgl:Int.gcd n d<=4611686018427387904:=by
  have:=Int.gcd_le_natAbs_right n h0
  omega
 obtain⟨G,hG⟩:∃G:Int,G=((Int.gcd n d:Nat):Int):=⟨_,rfl⟩
 unfold ofF
 simp only[]
 rw[<- hG]at HD⊢
 have hG1:1<=G:=by omega
 have hG2:G<=4611686018427387904:=by omega
 clear hG hg0 hgl
 have b1:=zHC (g:=G) hn
 have b2:=zHC (g:=G) hd
 by_cases hs:d<0
 ·rw[if_pos hs]
  obtain⟨m,hm⟩:∃m:Int,m= -G:=⟨_,rfl⟩
  rw[<- hm]
  have b3:=zHC (g:=m) hn
  have b4:=zHC (g:=m) hd
  have hw1:IntKind.i64.wrap (n.tdiv m)=n.tdiv m:=IntWalk.i64_in _ (by omega)
  have hw2:IntKind.i64.wrap (d.tdiv m)=d.tdiv m:=IntWalk.i64_in _ (by omega)
  have hw00:wrap64 (-G)=m:=by unfold wrap64;omega
  have hne:¬(m=0):=by omega
  clear b1 b2 b3 b4 h0 hm hG1 hG2 hn hd
  go_enter Tryz.func152,Tryz.ntmps152
  go_wp2_with (go_at_call 206;refine(HD.out _).mono ?_;rintro e w1 ⟨rfl,k1,rfl⟩;refine Stop.of ?_)
  refine Stop.go ?_
  have hb1:Below w.heap.size w ((w.alloc (.cells #[.int .i64 0,.int .i64 0] 29)).drewN k1):=zBW ((Below.refl _ w).alloc (Nat.le_refl _) _) k1
  have hq1:((w.alloc (.cells #[.int .i64 0,.int .i64 0] 29)).drewN k1).heap[w.heap.size]? =some (.cells #[.int .i64 0,.int .i64 0] 29 (0,0)):=World.alloc_heap_new w _
  generalize (w.alloc (.cells #[.int .i64 0,.int .i64 0] 29)).drewN k1=w2 at hb1 hq1⊢
  go_wp2
  go_still_tail 7,(by kernel_rfl)
  change wpList _ _ _ _ _ w2.drew
  have hb2:=hb1.drew
  have hq2:w2.drew.heap[w.heap.size]? =some (.cells #[.int .i64 0,.int .i64 0] 29 (0,0)):=hq1
  generalize w2.drew=w3 at hb2 hq2⊢
  have c0:w3.cell? ⟨w.heap.size,0,none⟩=some (.int .i64 0):=by simp[World.cell?,hq2]
  have c1:w3.cell? ⟨w.heap.size,1,none⟩=some (.int .i64 0):=by simp[World.cell?,hq2]
  have f0:w3.frozen? ⟨w.heap.size,0,none⟩=false:=by simp[World.frozen?,hq2]
  have f1:w3.frozen? ⟨w.heap.size,1,none⟩=false:=by simp[World.frozen?,hq2]
  have hlt3:w.heap.size<w3.heap.size:=(Array.getElem?_eq_some_iff.1 hq2).1
  go_wp2
  simp[bodyPost,results,Tryz.results152,go_sem,c0,c1,f0,f1,hlt3]
  exact⟨rfl,zAM (zAM hb2 (Nat.le_refl _) 0 _) (Nat.le_refl _) 1 _⟩
 ·rw[if_neg hs]
  have hw1:IntKind.i64.wrap (n.tdiv G)=n.tdiv G:=IntWalk.i64_in _ (by omega)
  have hw2:IntKind.i64.wrap (d.tdiv G)=d.tdiv G:=IntWalk.i64_in _ (by omega)
  have hne:¬(G=0):=by omega
  clear b1 b2 h0 hG1 hG2 hn hd
  go_enter Tryz.func152,Tryz.ntmps152
  go_wp2_with (go_at_call 206;refine(HD.out _).mono ?_;rintro e w1 ⟨rfl,k1,rfl⟩;refine Stop.of ?_)
  refine Stop.go ?_
  have hb1:Below w.heap.size w ((w.alloc (.cells #[.int .i64 0,.int .i64 0] 29)).drewN k1):=zBW ((Below.refl _ w).alloc (Nat.le_refl _) _) k1
  have hq1:((w.alloc (.cells #[.int .i64 0,.int .i64 0] 29)).drewN k1).heap[w.heap.size]? =some (.cells #[.int .i64 0,.int .i64 0] 29 (0,0)):=World.alloc_heap_new w _
  generalize (w.alloc (.cells #[.int .i64 0,.int .i64 0] 29)).drewN k1=w2 at hb1 hq1⊢
  go_wp2
  go_still_tail 7,(by kernel_rfl)
  change wpList _ _ _ _ _ w2.drew
  have hb2:=hb1.drew
  have hq2:w2.drew.heap[w.heap.size]? =some (.cells #[.int .i64 0,.int .i64 0] 29 (0,0)):=hq1
  generalize w2.drew=w3 at hb2 hq2⊢
  have c0:w3.cell? ⟨w.heap.size,0,none⟩=some (.int .i64 0):=by simp[World.cell?,hq2]
  have c1:w3.cell? ⟨w.heap.size,1,none⟩=some (.int .i64 0):=by simp[World.cell?,hq2]
  have f0:w3.frozen? ⟨w.heap.size,0,none⟩=false:=by simp[World.frozen?,hq2]
  have f1:w3.frozen? ⟨w.heap.size,1,none⟩=false:=by simp[World.frozen?,hq2]
  have hlt3:w.heap.size<w3.heap.size:=(Array.getElem?_eq_some_iff.1 hq2).1
  go_wp2
  simp[bodyPost,results,Tryz.results152,go_sem,c0,c1,f0,f1,hlt3]
  exact⟨rfl,zAM (zAM hb2 (Nat.le_refl _) 0 _) (Nat.le_refl _) 1 _⟩
end
section
open Go.RowKit
def readE(M:Mask)(y:List Int):Int:=if y.length=M.length then(if milB y=true then 0 else 7)else 9
def zBJ(M:Mask)(y l:List Int):Int:=if okM M=true then(if y.length=M.length then(if milB y=true then pixE M l else 7)else 9)else 1
theorem zLK(w:World)(a a2 a3:Option Addr)(n cap n2 cap2 n3 cap3:Nat)(M:Mask)(y l:List Int)(hn:M.length=n)(hn2:y.length=n2)(hn3:l.length=n3)(hm:n<=maxLen)(hm2:n2<=maxLen)(hm3:n3<=maxLen)(H:zAL w a M)(H2:zAE w a2 y)(H3:zAE w a3 l):
 Calls Tryz.prog 101 #[.slice a n cap,.slice a2 n2 cap2,.slice a3 n3 cap3] w fun e w'=>e=.returned (.int .i64 (zBJ M y l))∧Below w.heap.size w w':=by
 have HV:=hid (zGU w a n cap M hn hm H)
 cases hok:okM M
 ·rw[hok]at HV
  have hp:zBJ M y l=1:=by unfold zBJ;rw[hok];rfl
  rw[hp]
  clear hn hn2 hn3 H H2 H3 hok hp
  go_enter Tryz.func101,Tryz.ntmps101
  go_wp2_with (go_at_call 79;refine HV.out.mono ?_;rintro e w1 ⟨rfl,hb1⟩)
  go_ret
  exact⟨rfl,hb1⟩
 ·rw[hok]at HV
  by_cases hl:n2=n
  ·subst hl
   have HII:=hid (fun(X:World) (hX:Below w.heap.size w X)=>H2.below hX)
   have HN2:=hid hn2
   have HPX:=hid (fun(X:World) (hX:Below w.heap.size w X)=>pixels_c X a a3 n2 cap n3 cap3 M l hn hn3 hm hm3 (H.below hX) (H3.below hX))
   have hdl:((n2:Int) !=(n2:Int))=false:=by simp
   have hpre:zBJ M y l=if milB y=true then pixE M l else 7:=by unfold zBJ;rw[if_pos hok,if_pos (by omega)]
   rw[hpre]
   obtain⟨E,hE⟩:=exq (pixE M l)
   rw[<- hE]at HPX⊢
   obtain⟨mz,hmz⟩:=exq (milB y)
   have HMZ:=hid hmz
   rw[<- hmz]
   clear hn H H2 H3 hok hn2 hn3 hpre hE hmz
   cases mz
   all_goals
    simp only[if_true,if_false,Bool.false_eq_true]
    go_enter Tryz.func101,Tryz.ntmps101
    go_wp2_with (go_at_call 79;refine HV.out.mono ?_;rintro e w1 ⟨rfl,hb1⟩;refine Stop.of ?_)
    refine Stop.go ?_
    have HBW1:=hid hb1
    clear hb1 HV
    go_wp2_with (go_at_call 106;refine(zNS _ 1000000).mono ?_;rintro e w2 ⟨q,rfl,hq,hqs,hb2⟩;refine Stop.of ?_)
    refine Stop.go ?_
    have HB2:=hid (zAB HBW1.out hb2)
    have HCF:=hid (zGD w2 a2 n2 cap2 y HN2.out hm2 (HII.out w2 HB2.out) 167 #[.pointer (some ⟨q,0,none⟩)] (fun n=>!(inB n (-1000000) 1000000)) (enters_of Tryz.func167 (by kernel_rfl) rfl) (beyond1 w2 q 1000000 (by decide) hq hqs))
    rw[any_mil,<- HMZ.out]at HCF
    clear hq hqs hb2
   ·go_wp2_with (go_at_call 105;refine HCF.out.mono ?_;rintro e w3 ⟨rfl,hb3⟩)
    go_ret
    exact⟨rfl,zAB HB2.out hb3⟩
   ·go_wp2_with (go_at_call 105;refine HCF.out.mono ?_;rintro e w3 ⟨rfl,hb3⟩;refine Stop.of ?_)
    refine Stop.go ?_
    have HB3:=hid (zAB HB2.out hb3)
    clear HCF hb3
    go_wp2_with (go_at_call 163;refine(HPX.out w3 HB3.out).mono ?_;rintro e w4 ⟨rfl,hb4⟩)
    go_ret
    exact⟨rfl,zAB HB3.out hb4⟩
  ·have hdl:((n2:Int) !=(n:Int))=true:=by simp;omega
   have hpre:zBJ M y l=9:=by unfold zBJ;rw[if_pos hok,if_neg (by omega)]
   rw[hpre]
   clear hn hn2 hn3 H H2 H3 hok hpre hl
   go_enter Tryz.func101,Tryz.ntmps101
   go_wp2_with (go_at_call 79;refine HV.out.mono ?_;rintro e w1 ⟨rfl,hb1⟩)
   go_ret
   exact⟨rfl,hb1⟩
end
section
open Go.RowKit
theorem solve1(w:World)(b:Nat)(a:Option Addr)(n cap N:Nat)(y:List Int)(hn:y.length=n)(hN:N<=n)(hm:n<=maxLen)(hc:w.cell? ⟨b,0,none⟩=some (.slice a n cap))(hb:b<w.heap.size)(H:zAE w a y):
 MoreP Tryz.prog 265 #[.pointer (some ⟨b,0,none⟩)] w N (fun i=>[y[i]?.getD 0]):=by
 intro i W hi hW
 have hc':W.cell? ⟨b,0,none⟩=some (.slice a n cap):=(hW.cell (p:=⟨b,0,none⟩) hb).trans hc
 obtain⟨b2,o2,rfl,hb2,hc2⟩:=(H.below hW) i (by omega)
 show Calls Tryz.prog 265 #[.int .i64 i,.pointer (some ⟨b,0,none⟩)] W fun e W'=>∃a c,e=.returned (.slice a 1 c)∧zAE W' a [y[i]?.getD 0]∧Below W.heap.size W W'
 obtain⟨x,hx⟩:=exq (y[i]?.getD 0)
 rw[<- hx]at hc2⊢
 have hin:(i:Int)<(n:Int):=by omega
 unfold maxLen at hm
 clear hn H hc hx
 go_enter Tryz.func265,Tryz.ntmps265
 go_wp2
 go_ret
 refine⟨some ⟨W.heap.size,0,none⟩,1,rfl,fun j hj=>⟨W.heap.size,0,rfl,by simp,?_⟩,(Below.refl _ _).alloc (Nat.le_refl _) _⟩
 obtain rfl:j=0:=by simpa using hj
 rw[World.cell?_alloc_at _ _ _ _ rfl];rfl
theorem chosenF_y{M:List (List Int)}{S y:List Int}(h:y.length=M.length):zEL M S (fun i=>[y[i]?.getD 0])=zAF (zAW M S) y:=by
 unfold zEL zAF zAW
 refine List.ext_getElem (by simp[h]) fun i h1 h2=>?_
 have hi:i<M.length:=by simpa using h1
 simp[List.getElem?_eq_getElem (show i<y.length by omega)]
def zCM(M:Mask)(l y:List Int):List Rt×Int:=if zBJ M y l=0 then zAQ (zAF (zAW M l) y) l.length else([],zBJ M y l)
theorem zIF{M:Mask}{y l:List Int}(h:zBJ M y l=0):okM M=true∧y.length=M.length∧milB y=true∧zCE (zAA M) l:=by
 unfold zBJ at h
 by_cases h1:okM M=true
 ·rw[if_pos h1]at h
  by_cases h2:y.length=M.length
  ·rw[if_pos h2]at h
   by_cases h3:milB y=true
   ·rw[if_pos h3]at h
    exact⟨h1,h2,h3,(pix_ok h).2⟩
   ·rw[if_neg h3]at h;omega
  ·rw[if_neg h2]at h;omega
 ·rw[if_neg h1]at h;omega
theorem zHS{y:List Int}(h:milB y=true):∀v∈y,-((1000000:Nat):Int)<=v∧v<=((1000000:Nat):Int):=by
 intro v hv
 have:=List.all_eq_true.1 h v hv
 unfold inB at this
 simp only[Bool.and_eq_true,decide_eq_true_eq]at this
 omega
def ofTo(R:List (List Int))(J:List Nat)(n k:Nat):List Rt:=(List.range k).map fun i=>ofF (vec (R[i]?.getD []) n) (vec (R[i]?.getD []) (jf J i))
theorem zNC(R:List (List Int))(J:List Nat)(n k:Nat):(ofTo R J n k).length=k:=by simp[ofTo]
theorem ofTo_succ(R:List (List Int))(J:List Nat)(n k:Nat):ofTo R J n (k+1)=ofTo R J n k++[ofF (vec (R[k]?.getD []) n) (vec (R[k]?.getD []) (jf J k))]:=by
 unfold ofTo;rw[List.range_succ,List.map_append];rfl
def SolveSt(wr:World)(base:Nat)(v:Value)(R:List (List Int))(J:List Nat)(n k:Nat):Prop:=zEM wr base v (ofTo R J n (min k J.length))∧∀q,J.length<=q->q<k->vec (R[q]?.getD []) n=0
theorem solve_end{C:List (List Int)}{n:Nat}(hK:(pRed C n).2.length<=n)(h0:∀q,(pRed C n).2.length<=q->q<(pRed C n).1.length->vec ((pRed C n).1[q]?.getD []) n=0):
 zAQ C n=if (pRed C n).2.length<n then([],11)else(ofTo (pRed C n).1 (pRed C n).2 n (pRed C n).2.length,0):=by
 unfold zAQ
 simp only[]
 have h1:((pRed C n).1.drop (pRed C n).2.length).any (nz n)=false:=by
  rw[Bool.eq_false_iff]
  intro hc
  obtain⟨r,hr,hz⟩:=List.any_eq_true.1 hc
  obtain⟨i,hi,rfl⟩:=List.mem_iff_getElem.1 hr
  rw[List.getElem_drop]at hz
  have:=h0 ((pRed C n).2.length+i) (by omega) (by rw[List.length_drop]at hi;omega)
  rw[List.getElem?_eq_getElem (by rw[List.length_drop]at hi;omega)]at this
  simp only[nz,decide_eq_true_eq]at hz
  exact hz this
 rw[h1]
 simp only[Bool.false_eq_true,if_false]
 by_cases c:(pRed C n).2.length<n
 ·rw[if_pos c,if_pos c]
 ·rw[if_neg c,if_neg c]
  have:(pRed C n).2.length=n:=by omega
  rw[this];rfl
theorem solve_none{C:List (List Int)}{n q:Nat}(h1:(pRed C n).2.length<=q)(h2:q<(pRed C n).1.length)(h3:vec ((pRed C n).1[q]?.getD []) n≠0):zAQ C n=([],8):=by
 unfold zAQ
 simp only[]
 rw[if_pos]
 refine List.any_eq_true.2 ⟨(pRed C n).1[q],?_,?_⟩
 ·rw[List.mem_drop_iff_getElem];exact⟨q-(pRed C n).2.length,by omega,by congr 1;omega⟩
 ·rw[List.getElem?_eq_getElem h2]at h3
  simpa[nz]using h3
theorem solve_c(w:World)(a a2 a3:Option Addr)(n cap n2 cap2 n3 cap3:Nat)(M:Mask)(l y:List Int)(hn:M.length=n)(hn2:l.length=n2)(hn3:y.length=n3)(hm:n<=maxLen)(hm2:n2<=maxLen)(hm3:n3<=maxLen)(H:zAL w a M)(H2:zAE w a2 l)(H3:zAE w a3 y):
 Calls Tryz.prog 262 #[.slice a n cap,.slice a2 n2 cap2,.slice a3 n3 cap3] w fun e w'=>∃v base,e=.returned (.tuple #[v,.int .i64 (zCM M l y).2])∧w.heap.size<=base∧zEM w' base v (zCM M l y).1∧Below w.heap.size w w':=by
 have hmf:∀(fn:Fn) (first cap:Array Value) (w:World),(Instr.makeFunc fn first cap).run Tryz.prog w=.ok (.func fn first cap) w:=fun _ _ _ _=>rfl
 obtain⟨s,hs⟩:=exq (w.heap.size)
 obtain⟨wf,hwf⟩:=exq (w.alloc (.cells #[.slice a3 n3 cap3] 24))
 have hb0:Below w.heap.size w wf:=by rw[hwf];exact(Below.refl _ _).alloc (Nat.le_refl _) _
 have hcb:wf.cell? ⟨s,0,none⟩=some (.slice a3 n3 cap3):=by rw[hwf,hs,World.cell?_alloc_at _ _ _ _ rfl];rfl
 have hsf:s<wf.heap.size:=by rw[hwf,hs];simp
 have HCK:=hid (zLK wf a a3 a2 n cap n3 cap3 n2 cap2 M y l hn hn3 hn2 hm hm3 hm2 (H.below hb0) (H3.below hb0) (H2.below hb0))
 have HBF:=hid hb0
 by_cases hck:zBJ M y l=0
 ·rw[hck]at HCK
  have hv:zCM M l y=zAQ (zAF (zAW M l) y) n2:=by unfold zCM;rw[if_pos hck,hn2]
  rw[hv]
  obtain⟨hok,hyl,hmil,hso⟩:=zIF hck
  obtain⟨hM,h1,h6,hc1,hc10⟩:=zCN hok
  have hl10:=set_le hso
  have hn6:n<=6:=by omega
  have hn1:1<=n:=by omega
  have hn210:n2<=10:=by omega
  have hS:∀r∈M,∀j∈l,0<=j∧j<r.length:=fun r hr j hj=>by rw[hM.wid r hr];exact hso.2 j hj
  have HCh:=hid (fun(X:World) (hX:Below wf.heap.size wf X)=>
   have hX0:=zAB hb0 hX
   chosen_c X a n cap M hn (by omega) (H.below hX0) a2 n2 cap2 l hn2 (by omega) (H2.below hX0) hS 265 #[.pointer (some ⟨s,0,none⟩)] (enters_of Tryz.func265 (by kernel_rfl) rfl) (fun i=>[y[i]?.getD 0])
    (solve1 X s a3 n3 cap3 n y hn3 (by omega) hm3 ((hX.cell (p:=⟨s,0,none⟩) hsf).trans hcb) (Nat.lt_of_lt_of_le hsf hX.size) (H3.below hX0)) (fun i _=>⟨by simp,by simp⟩))
  rw[chosenF_y (by omega)]at HCh
  have hMC:MaskOk (zAW M l) n2:=by rw[<- hn2];exact hM.cols l
  have hY:=hMC.addY (y:=y) (by rw[zBR];omega) (Y:=1000000) (by omega) (zHS hmil)
  have hCl:(zAF (zAW M l) y).length=n:=by rw[zED (by rw[zBR];omega),zBR,hn]
  obtain⟨C,hC⟩:=exq (zAF (zAW M l) y)
  rw[<- hC]at HCh hY hCl⊢
  have hle:∀t,t<=n2->∀r∈(pRed C t).1,r.length=n2+1∧BndL 1073741824 r:=fun t ht r hr=>by
   have h:=zNA hY.wid hY.le6 hY.one hY.all ht r hr
   exact⟨h.1,fun x hx=>by have:=h.2 x hx;omega⟩
  have HRd:=hid (fun(W1:World) (base:Nat) (v0:Value) (hO:OwnT W1 base W1.heap.size v0 C) (hb:base<=W1.heap.size)=>reduce_c W1 base v0 C (n2+1) hO hb hY.wid (by omega) (by omega) (by omega) n2 (by omega) hle)
  have hinv:=zCA C hY.wid n2 (fun j hj q=>zBT (by decide) (fun r hr=>hY.one r hr j hj) q)
  have hRl:(pRed C n2).1.length=n:=by rw[zEP,hCl]
  have hRw:∀r∈(pRed C n2).1,r.length=n2+1:=fun r hr=>(hle n2 (Nat.le_refl _) r hr).1
  have hRb:∀r∈(pRed C n2).1,BndL 1073741824 r:=fun r hr=>(hle n2 (Nat.le_refl _) r hr).2
  have hJn:(pRed C n2).2.length<=n:=by have:=hinv.K_le;omega
  have hJ2:(pRed C n2).2.length<=n2:=by
   have:=zMN (a:=0) (b:=n2) hinv.asc (fun x hx=>⟨Nat.zero_le _,hinv.lt x hx⟩)
   omega
  have hJlt:∀k,k<(pRed C n2).2.length->jf (pRed C n2).2 k<n2:=fun k hk=>by
   unfold jf;rw[List.getElem?_eq_getElem hk];exact hinv.lt _ (List.getElem_mem hk)
  have hJpos:∀k,k<(pRed C n2).2.length->0<vec ((pRed C n2).1[k]?.getD []) (jf (pRed C n2).2 k):=fun k hk=>(hinv.pp k hk).2
  have HEND:=hid (solve_end (C:=C) (n:=n2) hJ2)
  have HNO:=hid (fun q=>solve_none (C:=C) (n:=n2) (q:=q))
  obtain⟨SV,hSV⟩:=exq (zAQ C n2)
  rw[<- hSV]at HEND HNO⊢
  obtain⟨R,hR⟩:=exq ((pRed C n2).1)
  obtain⟨J,hJ⟩:=exq ((pRed C n2).2)
  have e1:(pRed C n2).1=R:=hR.symm
  have e2:(pRed C n2).2=J:=hJ.symm
  rw[e1]at HRd hRl hRw hRb hJpos HEND HNO
  rw[e2]at HRd hJn hJ2 hJlt hJpos HEND HNO
  obtain⟨K,hK⟩:=exq (J.length)
  rw[<- hK]at HRd hJn hJ2 hJlt hJpos HEND HNO
  have HKJ:=hid hK
  have HRL:=hid hRl
  have HRW:=hid hRw
  have HRB:=hid hRb
  have HJLT:=hid hJlt
  have HJPOS:=hid hJpos
  have HSS:=hid hs
  clear e1 e2 hR hJ hK hRl hRw hRb hJlt hJpos hSV hinv hle hC hCl hY hMC hS hso hmil hyl hok hM h1 h6 hc1 hc10 hl10 hck hv hn hn2 hn3 H H2 H3 hb0
  go_enter Tryz.func262,Tryz.ntmps262
  go_wp2_with fail
  rw[<- hwf,<- hs]
  clear hwf hs
  go_wp2_with (go_at_call 101;refine HCK.out.mono ?_;rintro e w1 ⟨rfl,hb1⟩;refine Stop.of ?_)
  refine Stop.go ?_
  go_wp2_with (go_at_call 220;refine(HCh.out w1 hb1).mono ?_;rintro e w2 ⟨v0,rfl,hO2,hb2⟩;refine Stop.of ?_)
  refine Stop.go ?_
  have HRd1:=hid (HRd.out w2 w1.heap.size v0 (OwnT.of hO2) hb2.size)
  clear hO2 HRd HCh
  go_wp2_with (go_at_call 195;refine HRd1.out.mono ?_;rintro e w3 ⟨vJ,rfl,hJo,hT3,hb3⟩;refine Stop.of ?_)
  refine Stop.go ?_
  rw[intsJ_vals]at hJo
  obtain⟨ja,jc,rfl,hJI,hJm⟩:=zDN hJo (by rw[intsJ_len,HKJ.out])
  have hv0:∃g0 c0,v0=.slice (some ⟨g0,0,none⟩) n c0:=by
   obtain⟨g0,c0,_,_,e,_⟩:=hT3.at 0 (by rw[HRL.out];omega)
   exact⟨g0,c0,by rw[e,HRL.out]⟩
  obtain⟨g0,c0,rfl⟩:=hv0
  have hRA:=hT3.rowsAt HRL.out (fun r hr=>by rw[HRW.out r hr];unfold maxLen;omega)
  have HJI:=hid hJI
  have HRA:=hid hRA
  have HBW:=hid (show Below w.heap.size w w3 from zAB HBF.out (hb1.trans ((hb2.trans hb3).mono hb1.size)))
  have hsz:s<=w3.heap.size:=by rw[HSS.out];exact HBW.out.size
  clear hJI hRA hJo hT3 hb1 hb2 hb3 HRd1 HCK HBF hcb hsf
  go_wp2
  go_loopw [12,33] (fun v i wr=>∃k:Nat,k<=n∧i=.int .i64 k∧SolveSt wr w3.heap.size v R J n2 k∧Below w3.heap.size w3 wr) (fun _ i _=>n-(intOf i).toNat)
  case atStart=>exact⟨0,Nat.zero_le _,rfl,⟨by rw[Nat.zero_min];exact zEM.nil _ _,fun q _ h=>by omega⟩,Below.refl _ _⟩
  case round=>
   obtain⟨k,hk,rfl,hst,hbk⟩:=hrel
   by_cases hlt:k<n
   ·obtain⟨b,off,ra,rn,rc,e,hbs,hc,hrn,hrm,hri⟩:=HRA.out k (by rw[HRL.out];exact hlt)
    cases e
    rw[Nat.zero_add]at hc
    have hrw:rn=n2+1:=by rw[<- hrn];exact HRW.out _ (List.getElem_mem _)
    have hcw:wr.cell? ⟨g0,k,none⟩=some (.slice ra rn rc):=(hbk.cell (p:=⟨g0,k,none⟩) hbs).trans hc
    clear hc
    obtain⟨b',off',rfl,hbs',hcx⟩:=hri n2 (by omega)
    have hkR:k<R.length:=by rw[HRL.out];exact hlt
    have hvx:∀c,(R[k])[c]?.getD 0=vec (R[k]?.getD []) c:=fun c=>by rw[List.getElem?_eq_getElem hkR];rfl
    rw[hvx]at hcx
    have hnx:(n2:Int)<(rn:Int):=by omega
    by_cases hkK:k<K
    ·obtain⟨p,hp⟩:=exq (jf J k)
     have hp2:p<n2:=by rw[hp];exact HJLT.out k hkK
     obtain⟨jb,jo,rfl,hjs,hcj⟩:=HJI.out k (by rw[intsJ_len,<- HKJ.out];exact hkK)
     have hjv:(intsJ J)[k]?.getD 0=(p:Int):=by
      have hkl:k<J.length:=by rw[<- HKJ.out];exact hkK
      unfold intsJ;rw[hp];unfold jf;simp[hkl]
     rw[hjv]at hcj
     obtain⟨b2,off2,e2,_,hcz⟩:=hri p (by omega)
     cases e2
     rw[hvx]at hcz
     have hzp:0<vec (R[k]?.getD []) p:=by rw[hp];exact HJPOS.out k hkK
     have hbx:=zET (P:=fun x=> -((1073741824:Nat):Int)<=x∧x<=((1073741824:Nat):Int)) (by omega) (HRB.out _ (List.getElem_mem hkR))
     have hbx1:=hbx n2
     have hbx2:=hbx p
     have hRk:R[k]?.getD []=R[k]:=by rw[List.getElem?_eq_getElem hkR];rfl
     rw[<- hRk]at hbx1 hbx2
     have hsnoc:ofTo R J n2 (k+1)=ofTo R J n2 k++[ofF (vec (R[k]?.getD []) n2) (vec (R[k]?.getD []) p)]:=by rw[hp];exact ofTo_succ R J n2 k
     have HOf:=hid (fun(X:World)=>of_c X (vec (R[k]?.getD []) n2) (vec (R[k]?.getD []) p) (by omega) (by omega) (by omega))
     obtain⟨x,hx⟩:=exq (vec (R[k]?.getD []) n2)
     obtain⟨z,hz⟩:=exq (vec (R[k]?.getD []) p)
     rw[<- hx]at hcx HOf hsnoc
     rw[<- hz]at hcz HOf hsnoc
     obtain⟨Q,hQ⟩:=exq (ofF x z)
     rw[<- hQ]at HOf hsnoc
     obtain⟨q1,q2⟩:=Q
     have HSN:=hid hsnoc
     obtain⟨hst1,hst2⟩:=hst
     rw[<- HKJ.out,show min k K=k by omega]at hst1
     have HST2:=hid (show ∀q,J.length<=q->q<k+1->vec (R[q]?.getD []) n2=0 from fun q h1 h2=>by have:=HKJ.out;omega)
     obtain⟨T,hT⟩:=exq (ofTo R J n2 k)
     rw[<- hT]at hst1 hsnoc
     have hTl:T.length=k:=by rw[hT];exact zNC R J n2 k
     have HO:=hid hst1
     unfold zEM at hst1
     rw[hTl]at hst1
     have HO1:=hid hst1
     obtain⟨va,vc,rfl⟩:=zAH hst1
     have HSN2:=hid (show zAK (ofTo R J n2 (k+1))=zAK T++zAV (q1,q2)by rw[hsnoc,zJM])
     have HS:=hid (fun(X:World) (hX:Below w3.heap.size w3 X)=>show X.cell? ⟨b',off'+n2,none⟩=some (.int .i64 x)∧X.cell? ⟨jb,jo+k,none⟩=some (.int .i64 p)∧X.cell? ⟨b',off'+p,none⟩=some (.int .i64 z)from
      ⟨(hX.cell (p:=⟨b',off'+n2,none⟩) hbs').trans hcx,(hX.cell (p:=⟨jb,jo+k,none⟩) hjs).trans hcj,(hX.cell (p:=⟨b',off'+p,none⟩) hbs').trans hcz⟩)
     have M1:=hid (show k+1<=maxLen by unfold maxLen;omega)
     have M2:=hid (show(k+1)*16<=140737488355328 by omega)
     have HBK:=hid hbk
     have i1:(k:Int)<(K:Int):=by omega
     have i2:(p:Int)<(rn:Int):=by omega
     clear hst1 hst2 hcx hcj hcz hsnoc hx hz hQ hT hTl hRk hbx hbx1 hbx2 hzp hvx hri hrn hrw hjv hp hbk HO HSN
     simp only[ratV]at HOf
     go_wp2
     refine zAI (fun j' X=>wAll j'=true->X.cell? ⟨b',off'+n2,none⟩=some (.int .i64 x)∧X.cell? ⟨jb,jo+k,none⟩=some (.int .i64 p)∧X.cell? ⟨b',off'+p,none⟩=some (.int .i64 z)) (by kernel_rfl) ?_
     have hbd:Below w3.heap.size w3 wr.drew:=HBK.out.drew
     have HO2:=hid (zBQ HO1.out ((Below.refl _ wr).drew))
     have HB3:=hid hbd
     generalize wr.drew=wd at hbd HO2 HB3⊢
     refine AnyT.tD (i:=0) (v:=.slice va k vc) rfl rfl (by rintro w' ⟨y1,y2,y3⟩;go_simp) (HS.out _ hbd) ?_;go_frame
     refine AnyT.tD (i:=1) (v:=.slice (some ⟨b',off',none⟩) rn rc) rfl rfl (by rintro w' ⟨y1,y2,y3⟩;go_simp) (HS.out _ hbd) ?_;go_frame
     refine AnyT.tD (i:=2) (v:=.int .i64 n2) rfl rfl (by rintro w' ⟨y1,y2,y3⟩;go_simp) (HS.out _ hbd) ?_;go_frame
     refine AnyT.tD (i:=3) (v:=.pointer (some ⟨b',off'+n2,none⟩)) rfl rfl (by rintro w' ⟨y1,y2,y3⟩;go_simp) (HS.out _ hbd) ?_;go_frame
     refine AnyT.tD (i:=4) (v:=.int .i64 x) rfl rfl (by rintro w' ⟨y1,y2,y3⟩;go_simp) (HS.out _ hbd) ?_;go_frame
     refine AnyT.tD (i:=5) (v:=.slice (some ⟨b',off',none⟩) rn rc) rfl rfl (by rintro w' ⟨y1,y2,y3⟩;go_simp) (HS.out _ hbd) ?_;go_frame
     refine AnyT.tD (i:=6) (v:=.slice (some ⟨jb,jo,none⟩) K jc) rfl rfl (by rintro w' ⟨y1,y2,y3⟩;go_simp) (HS.out _ hbd) ?_;go_frame
     refine AnyT.tD (i:=7) (v:=.int .i64 k) rfl rfl (by rintro w' ⟨y1,y2,y3⟩;go_simp) (HS.out _ hbd) ?_;go_frame
     refine AnyT.tD (i:=8) (v:=.pointer (some ⟨jb,jo+k,none⟩)) rfl rfl (by rintro w' ⟨y1,y2,y3⟩;go_simp) (HS.out _ hbd) ?_;go_frame
     refine AnyT.tD (i:=9) (v:=.int .i64 p) rfl rfl (by rintro w' ⟨y1,y2,y3⟩;go_simp) (HS.out _ hbd) ?_;go_frame
     refine AnyT.tD (i:=10) (v:=.pointer (some ⟨b',off'+p,none⟩)) rfl rfl (by rintro w' ⟨y1,y2,y3⟩;go_simp) (HS.out _ hbd) ?_;go_frame
     refine AnyT.tD (i:=11) (v:=.int .i64 z) rfl rfl (by rintro w' ⟨y1,y2,y3⟩;go_simp) (HS.out _ hbd) ?_;go_frame
     refine AnyT.nx (i:=12) rfl ?_
     go_wp2_with (go_at_call 152;refine(HOf.out _).mono ?_;rintro e w4 ⟨rfl,hbl4⟩;refine Stop.of ?_)
     refine Stop.go ?_
     have HB4:=hid (zAB hbd hbl4)
     have HO4:=hid (zBQ HO2.out hbl4)
     have M3:=hid (Nat.le_trans HB4.out.size (zCV w4 (.cells (zAV (q1,q2)).toArray 29)))
     clear hbd hbl4
     go_wp2
     refine⟨fun _=>HS.out _ HB4.out,?_⟩
     refine AnyT.nx (i:=13) rfl ?_
     go_wp2
     have hbA:Below w3.heap.size w3 (w4.alloc (.cells (zAV (q1,q2)).toArray 29)):=HB4.out.alloc HB4.out.size _
     refine⟨fun _=>HS.out _ hbA,?_⟩
     refine AnyT.nx (i:=14) rfl ?_
     refine zBN _ rfl (.tmp 43) (.tmp 56) 42 rfl w3.heap.size 29 (.agg #[.int .i64 0,.int .i64 0]) 2 16 Tryz.underlying42 zIU rfl (by decide) (.slice va k vc) k _ rfl (HO4.out.alloc _) (some ⟨w4.heap.size,0,none⟩) 1 1 (zAV (q1,q2)) rfl rfl zDM (rat_news w4 (q1,q2) _) (zMW _) M1.out M2.out M3.out ?_
     intro a5 c5 w5 own5 g5
     have hb5:Below w3.heap.size w3 w5:=hbA.grown g5 M3.out (fun q hq=>(HO4.out.lt q hq).1)
     refine⟨fun _=>HS.out _ hb5,?_⟩
     refine AnyT.tD (i:=15) (v:=.slice a5 (k+1) c5) rfl rfl (by rintro w' ⟨y1,y2,y3⟩;go_simp) (HS.out _ hb5) ?_;go_frame
     refine AnyT.done (by kernel_rfl) ?_ _
     go_wp2
     refine⟨⟨k+1,by omega,by go_num,⟨?_,HST2.out⟩,hb5⟩,by simp[intOf];omega⟩
     rw[<- HKJ.out,show min (k+1) K=k+1 by omega]
     unfold zEM
     rw[zNC,HSN2.out]
     exact own5
    ·have HX8:=hid (fun(h:vec (R[k]?.getD []) n2≠0)=>HNO.out k (by omega) (by rw[HRL.out];exact hlt) h)
     have HX0:=hid (fun(h:vec (R[k]?.getD []) n2=0)=>show SolveSt wr w3.heap.size u12 R J n2 (k+1)from⟨by have h1:=hst.1;rw[<- HKJ.out,show min k K=min (k+1) K by omega]at h1;rw[<- HKJ.out];exact h1,fun q h1 h2=>by
      rcases Nat.lt_or_ge q k with h3|h3
      ·exact hst.2 q h1 h3
      ·obtain rfl:q=k:=by omega
       exact h⟩)
     obtain⟨x,hx⟩:=exq (vec (R[k]?.getD []) n2)
     rw[<- hx]at hcx HX8 HX0
     have i1:¬((k:Int)<(K:Int)):=by omega
     have HBK:=hid hbk
     have hcx':wr.cell? ⟨b',off'+n2,none⟩=some (.int .i64 x):=(hbk.cell (p:=⟨b',off'+n2,none⟩) hbs').trans hcx
     clear hx hst hbk hcx hvx hri hrn hrw
     by_cases h0:x=0
     ·subst h0
      have HX:=hid (HX0.out rfl)
      clear HX0 HX8
      go_wp2
      exact⟨⟨k+1,by omega,by go_num,HX.out,HBK.out⟩,by simp[intOf];omega⟩
     ·have hxb:(x !=0)=true:=by simpa using h0
      obtain rfl:SV=([],8):=HX8.out h0
      clear HX0 HX8
      go_wp2
      go_ret2
      exact⟨.slice none 0 0,rfl,w.heap.size,Nat.le_refl _,zEM.nil _ _,zAB HBW.out HBK.out⟩
   ·obtain rfl:k=n:=by omega
    have hSV:SV=if K<n2 then([],11)else(ofTo R J n2 K,0):=HEND.out fun q h1 h2=>hst.2 q (by rw[<- HKJ.out];exact h1) (by rw[HRL.out]at h2;exact h2)
    have hst1:=hst.1
    rw[<- HKJ.out,show min k K=K by omega]at hst1
    have HO:=hid hst1
    have HBK:=hid hbk
    obtain⟨va,vc,hve⟩:=zAH hst1
    rw[zNC]at hve
    subst hve
    clear hst1 hst hbk
    by_cases hKn:K<n2
    ·rw[if_pos hKn]at hSV
     subst hSV
     have i2:(K:Int)<(n2:Int):=by omega
     go_wp2
     go_ret2
     exact⟨.slice none 0 0,rfl,w.heap.size,Nat.le_refl _,zEM.nil _ _,zAB HBW.out HBK.out⟩
    ·rw[if_neg hKn]at hSV
     subst hSV
     have i2:¬((K:Int)<(n2:Int)):=by omega
     go_wp2
     go_ret2
     exact⟨_,rfl,w3.heap.size,HBW.out.size,HO.out,zAB HBW.out HBK.out⟩
 ·have hv:zCM M l y=([],zBJ M y l):=by unfold zCM;rw[if_neg hck]
  rw[hv]
  obtain⟨E,hE⟩:=exq (zBJ M y l)
  rw[<- hE]at HCK hck⊢
  have hpb:(E !=0)=true:=by simpa using hck
  have HSS:=hid hs
  clear hn hn2 hn3 H H2 H3 hv hE hb0
  go_enter Tryz.func262,Tryz.ntmps262
  go_wp2_with fail
  rw[<- hwf,<- hs]
  clear hwf hs
  go_wp2_with (go_at_call 101;refine HCK.out.mono ?_;rintro e w1 ⟨rfl,hb1⟩)
  go_ret2
  exact⟨.slice none 0 0,w.heap.size,rfl,Nat.le_refl _,zEM.nil _ _,zAB HBF.out hb1⟩
end
end
section
section
theorem zHK{a b c d:Int}(hb:0<b)(hd:0<d)(h:a*d=c*b):zBC a b=zBC c d:=by
 have g1:0<Int.gcd a b:=Nat.pos_of_ne_zero fun e=>by have:=(Int.gcd_eq_zero_iff.1 e).2;omega
 have g2:0<Int.gcd c d:=Nat.pos_of_ne_zero fun e=>by have:=(Int.gcd_eq_zero_iff.1 e).2;omega
 have k1:Int.gcd (a*d) (b*d)=Int.gcd a b*d.natAbs:=Int.gcd_mul_right _ _ _
 have k2:Int.gcd (c*b) (d*b)=Int.gcd c d*b.natAbs:=Int.gcd_mul_right _ _ _
 rw[h,Int.mul_comm b d,k2]at k1
 obtain⟨a1,ha⟩:=Int.gcd_dvd_left a b
 obtain⟨b1,hb1⟩:=Int.gcd_dvd_right a b
 obtain⟨c1,hc⟩:=Int.gcd_dvd_left c d
 obtain⟨d1,hd1⟩:=Int.gcd_dvd_right c d
 unfold zBC
 obtain⟨G,hG⟩:∃G:Int,G=((Int.gcd a b:Nat):Int):=⟨_,rfl⟩
 obtain⟨H,hH⟩:∃G:Int,G=((Int.gcd c d:Nat):Int):=⟨_,rfl⟩
 have k3:H*b=G*d:=by
  have:=congrArg (fun n:Nat=>(n:Int)) k1
  simp only[Int.natCast_mul]at this
  rw[<- hG,<- hH]at this
  rw[show((b.natAbs:Nat):Int)=b by omega,show((d.natAbs:Nat):Int)=d by omega]at this
  exact this
 rw[<- hG]at ha hb1⊢
 rw[<- hH]at hc hd1⊢
 have hG0:G≠0:=by omega
 have hH0:H≠0:=by omega
 have e1:b1=d1:=by
  rw[hb1,hd1]at k3
  have:(H*G)*b1=(H*G)*d1:=by grind
  exact Int.eq_of_mul_eq_mul_left (Int.mul_ne_zero hH0 hG0) this
 have hb10:b1≠0:=fun e=>by rw[e]at hb1;omega
 have e2:a1=c1:=by
  rw[ha,hd1,hc,hb1,<- e1]at h
  have:(G*H*b1)*a1=(G*H*b1)*c1:=by grind
  exact Int.eq_of_mul_eq_mul_left (Int.mul_ne_zero (Int.mul_ne_zero hG0 hH0) hb10) this
 rw[Int.tdiv_eq_of_eq_mul_left hG0 (c:=a1) (by rw[ha];exact Int.mul_comm _ _),Int.tdiv_eq_of_eq_mul_left hG0 (c:=b1) (by rw[hb1];exact Int.mul_comm _ _),
  Int.tdiv_eq_of_eq_mul_left hH0 (c:=c1) (by rw[hc];exact Int.mul_comm _ _),Int.tdiv_eq_of_eq_mul_left hH0 (c:=d1) (by rw[hd1];exact Int.mul_comm _ _),e1,e2]
end
section
section
open Go.RowKit
def SeenAt(w:World)(g0:Nat)(M:Mask)(W:Nat):Prop:=
 ∀i,i<M.length->∃gi x,w.cell? ⟨g0,i,none⟩=some (.slice (some ⟨gi,0,none⟩) (W+M.length) (W+M.length+x))∧g0<w.heap.size∧gi<w.heap.size∧zAE w (some ⟨gi,0,none⟩) ((RE M W)[i]?.getD [])∧((RE M W)[i]?.getD []).length=W+M.length
theorem SeenAt.below{w w':World}{g0:Nat}{M:Mask}{W:Nat}(h:SeenAt w g0 M W)(hb:Below w.heap.size w w'):SeenAt w' g0 M W:=by
 intro i hi
 obtain⟨gi,x,h1,h2,h3,h4,h5⟩:=h i hi
 exact⟨gi,x,(hb.cell (p:=⟨g0,i,none⟩) h2).trans h1,Nat.lt_of_lt_of_le h2 hb.size,Nat.lt_of_lt_of_le h3 hb.size,h4.below hb,h5⟩
end
section
open Go.RowKit
end
section
open Go.RowKit
end
section
open Go.RowKit
theorem clone_c(w:World)(a:Option Addr)(n cap:Nat)(l:List Int)(hn:l.length=n)(hm:n*8<=140737488355328)(H:zAE w a l):
 Calls Tryz.prog 231 #[.slice a n cap] w fun e w'=>∃v,e=.returned v∧w'.ownsRow w.heap.size 3 1 v n (l.map (Value.int .i64))∧Below w.heap.size w w':=by
 obtain⟨i0,hi,hz0,hz1,hz2⟩:=info_parts zGP
 have heq:=fun(w:World) (a:Option Addr) (n c:Nat)=>Lib.run_eql_slice_nil (P:=Tryz.prog) w 24 3 a n c 0 0 Tryz.underlying24
 cases a with
 |none=>
  have h0:n=0:=by
   rcases Nat.eq_zero_or_pos n with h|h
   ·exact h
   ·obtain⟨_,_,e,_⟩:=H 0 (by omega);cases e
  subst h0
  have hl:l=[]:=List.eq_nil_of_length_eq_zero hn
  subst hl
  clear hn H hm
  go_enter Tryz.func231,Tryz.ntmps231
  go_wp2
  go_ret
  exact⟨_,rfl,World.ownsRow_nil _ _ _ _,Below.refl _ _⟩
 |some ad=>
  have HN:=hid hn
  have hnews:∀j u,(l.map (Value.int .i64))[j]? =some u->(w.alloc (.cells #[] 3)).cell? (ad.add j)=some u:=by
   intro j u hu
   rw[List.getElem?_map]at hu
   obtain⟨x,hx,rfl⟩:=Option.map_eq_some_iff.1 hu
   obtain⟨hjl,e⟩:=List.getElem?_eq_some_iff.1 hx
   obtain⟨b,off,ea,hb,hc⟩:=H j hjl
   cases ea
   rw[Addr.add_lit]
   refine(((Below.refl _ w).alloc (Nat.le_refl _) (.cells #[] 3)).cell (p:=⟨b,off+j,none⟩) hb).trans ?_
   rw[hc,hx];rfl
  have HNews:=hid hnews
  clear hnews H hn
  go_enter Tryz.func231,Tryz.ntmps231
  go_wp2_with (at_builtin;refine wpList_append_own _ rfl _ _ 24 rfl w.heap.size 3 i0 (.int .i64 0) 1 8 Tryz.underlying24 hi hz0 hz1 hz2 rfl (by decide) _ 0 [] rfl (World.ownsRow_made _ _ 0 (Nat.le_refl _) (by unfold maxLen;omega) rfl) ad n cap (l.map (Value.int .i64)) rfl (by rw[List.length_map,HN.out];omega) HNews.out (zNI _) (by unfold maxLen;omega) (by omega) (by simp) ?_;intro v' w1 hown' hgrow _)
  go_ret
  refine⟨_,rfl,by simpa using hown',((Below.refl _ w).alloc (Nat.le_refl _) _).grown hgrow (by simp) (fun k hk=>by cases hk;exact Nat.le_refl _)⟩
end
section
open Go.RowKit
end
section
open Go.RowKit
end
end
end
section
section
section
end
section
open Go.RowKit
def OwnR(W:World)(base:Nat)(u:Value)(l:List Int):Prop:=W.ownsRow base 3 1 u l.length (l.map (Value.int .i64))
theorem OwnR.type{W:World}{base k:Nat}{u:Value}{l:List Int}(h:OwnR W base u l)(hk:u.ownBlock=some k):base<=k∧k<W.heap.size∧∃c,W.heap[k]? =some (.cells c 3 (0,0)):=by
 rcases h.2 with⟨rfl,_⟩|⟨g,cap,cur,rfl,hbg,hgg,_⟩
 ·simp[Value.ownBlock]at hk
 ·obtain rfl:g=k:=by simpa[Value.ownBlock]using hk
  exact⟨hbg,(Array.getElem?_eq_some_iff.1 hgg).1,cur,hgg⟩
theorem OwnR.moved{W W':World}{base:Nat}{u:Value}{l:List Int}(h:OwnR W base u l)(hm:∀k,u.ownBlock=some k->W'.heap[k]? =W.heap[k]?):OwnR W' base u l:=by
 refine⟨h.1,?_⟩
 rcases h.2 with hn|⟨g,cap,cur,rfl,hbg,hgg,rest⟩
 ·exact .inl hn
 ·exact .inr ⟨g,cap,cur,rfl,hbg,(hm g rfl).trans hgg,rest⟩
theorem OwnR.low{W:World}{base b0:Nat}{u:Value}{l:List Int}(h:OwnR W base u l)(hb:b0<=base):OwnR W b0 u l:=by
 refine⟨h.1,?_⟩
 rcases h.2 with hn|⟨g,cap,cur,rfl,hbg,rest⟩
 ·exact .inl hn
 ·exact .inr ⟨g,cap,cur,rfl,by omega,rest⟩
theorem OwnR.below{W W':World}{base:Nat}{u:Value}{l:List Int}(h:OwnR W base u l)(hb:Below W.heap.size W W'):OwnR W' base u l:=h.moved fun k hk=>hb.block k (h.type hk).2.1
def TabD(W:World)(base:Nat)(v:Value)(L:List (List Int)):Prop:=
 ∃vs,W.ownsRow base 24 1 v L.length vs∧(∀j (hj:j<L.length),∃u,vs[j]? =some u∧OwnR W base u L[j])∧
  ∀(i j:Nat) (u u':Value) (k:Nat),vs[i]? =some u->vs[j]? =some u'->u.ownBlock=some k->u'.ownBlock=some k->i=j
theorem TabD.nil(W:World)(base:Nat):TabD W base (.slice none 0 0) []:=⟨[],World.ownsRow_nil _ _ _ _,fun j hj=>by simp at hj,fun i j u u' k h=>by simp at h⟩
theorem TabD.below{W W':World}{base:Nat}{v:Value}{L:List (List Int)}(h:TabD W base v L)(hb:Below W.heap.size W W'):TabD W' base v L:=by
 obtain⟨vs,h1,h2,h3⟩:=h
 refine⟨vs,zBQ h1 hb,fun j hj=>?_,h3⟩
 obtain⟨u,hu,hr⟩:=h2 j hj
 exact⟨u,hu,hr.below hb⟩
theorem own_typeL{W:World}{base k n:Nat}{v:Value}{vs:List Value}(h:W.ownsRow base 24 1 v n vs)(hk:v.ownBlock=some k):base<=k∧k<W.heap.size∧∃c,W.heap[k]? =some (.cells c 24 (0,0)):=by
 rcases h.2 with⟨rfl,_⟩|⟨g,cap,cur,rfl,hbg,hgg,_⟩
 ·simp[Value.ownBlock]at hk
 ·obtain rfl:g=k:=by simpa[Value.ownBlock]using hk
  exact⟨hbg,(Array.getElem?_eq_some_iff.1 hgg).1,cur,hgg⟩
theorem TabD.snoc{W w1 w3:World}{base:Nat}{v v' u:Value}{L:List (List Int)}{r:List Int}{vs:List Value}(h1:W.ownsRow base 24 1 v L.length vs)
 (h2:∀j (hj:j<L.length),∃u,vs[j]? =some u∧OwnR W base u L[j])(h3:∀(i j:Nat) (u u':Value) (k:Nat),vs[i]? =some u->vs[j]? =some u'->u.ownBlock=some k->u'.ownBlock=some k->i=j)
 (hb:Below W.heap.size W w1)(hbase:base<=W.heap.size)(hr:OwnR w1 W.heap.size u r)(hg:w1.grownBy w3 v.ownBlock)
 (ho':w3.ownsRow base 24 1 v' (L.length+1) (vs++[u])):TabD w3 base v' (L++[r]):=by
 have hlen:vs.length=L.length:=by have:=h1.1;omega
 have hup:∀b u l,OwnR w1 b u l->OwnR w3 b u l:=by
  intro b u l hu
  refine hu.moved fun k hk=>?_
  obtain⟨_,hlt,c,hc⟩:=hu.type hk
  refine hg.block k hlt ?_
  intro e
  obtain⟨_,h4,c2,hc2⟩:=own_typeL h1 e.symm
  have:=(hb.block k h4).trans hc2
  rw[hc]at this;cases this
 have hold:∀j q k,j<L.length->vs[j]? =some q->q.ownBlock=some k->k<W.heap.size:=by
  intro j q k hj hq hk
  obtain⟨u',hu',hr'⟩:=h2 j hj
  rw[hq]at hu';cases hu'
  exact(hr'.type hk).2.1
 refine⟨vs++[u],by simpa using ho',fun j hj=>?_,?_⟩
 ·simp only[List.length_append,List.length_cons,List.length_nil,Nat.zero_add]at hj
  by_cases hjl:j<L.length
  ·obtain⟨u',hu',hr'⟩:=h2 j hjl
   rw[List.getElem_append_left hjl]
   exact⟨u',by rw[List.getElem?_append_left (by omega)];exact hu',hup _ _ _ (hr'.below hb)⟩
  ·obtain rfl:j=L.length:=by omega
   rw[List.getElem_append_right (Nat.le_refl _)]
   simp only[Nat.sub_self,List.getElem_cons_zero]
   exact⟨u,by rw[List.getElem?_append_right (by omega),hlen];simp,hup _ _ _ (hr.low hbase)⟩
 ·intro i j q q' k hi hj hk hk'
  have hin:∀{i:Nat} {q:Value},(vs++[u])[i]? =some q->(i<L.length∧vs[i]? =some q)∨(i=L.length∧q=u):=by
   intro i q h
   rcases Nat.lt_or_ge i L.length with h4|h4
   ·rw[List.getElem?_append_left (by omega)]at h;exact .inl ⟨h4,h⟩
   ·rw[List.getElem?_append_right (by omega),hlen]at h
    rcases Nat.eq_or_lt_of_le h4 with h5|h5
    ·rw[<- h5,Nat.sub_self]at h;exact .inr ⟨h5.symm,by simpa using h.symm⟩
    ·rw[List.getElem?_eq_none (by simp;omega)]at h;cases h
  rcases hin hi with⟨h4,h5⟩|⟨h4,rfl⟩<;>rcases hin hj with⟨h6,h7⟩|⟨h6,h8⟩
  ·exact h3 i j q q' k h5 h7 hk hk'
  ·subst h8
   have:=hold i q k h4 h5 hk
   have:=(hr.type hk').1
   omega
  ·have:=hold j q' k h6 h7 hk'
   have:=(hr.type hk).1
   omega
  ·omega
end
section
open Go.RowKit
def zCD(w:World)(g:Nat)(l:List Rt):Prop:=w.heap[g]? =some (.cells (zAK l).toArray 29 (0,0))
theorem zCD.lt{w:World}{g:Nat}{l:List Rt}(h:zCD w g l):g<w.heap.size:=(Array.getElem?_eq_some_iff.1 h).1
theorem zCD.keep{w w':World}{g:Nat}{l:List Rt}(h:zCD w g l)(hk:w'.heap[g]? =w.heap[g]?):zCD w' g l:=hk.trans h
theorem zCD.cells{w:World}{g:Nat}{l:List Rt}(h:zCD w g l){k:Nat}(hk:k<l.length):w.cell? ⟨g,k*2,none⟩=some (.int .i64 l[k].1)∧w.cell? ⟨g,k*2+1,none⟩=some (.int .i64 l[k].2)∧∀o,w.frozen? ⟨g,o,none⟩=false:=by
 unfold zCD at h
 refine⟨?_,?_,fun o=>by simp[World.frozen?,h]⟩
 ·have:=zEB l k 0 hk (by omega)
  simp[World.cell?,h];rw[Nat.add_zero]at this;rw[this];rfl
 ·have:=zEB l k 1 hk (by omega)
  simp[World.cell?,h];rw[this];rfl
theorem zKP:∀(l:List Rt) (k:Nat) (p q:Int),k<l.length->((zAK l).set (k*2) (.int .i64 p)).set (k*2+1) (.int .i64 q)=zAK (l.set k (p,q))
 |x::l,0,p,q,_=>by simp[zAK,zAV]
 |x::l,k+1,p,q,h=>by
  have ih:=zKP l k p q (by simpa using h)
  have e:zAK (x::l)=.int .i64 x.1:: .int .i64 x.2::zAK l:=rfl
  rw[e,show(k+1)*2=(k*2+1)+1 by omega]
  simp only[List.set_cons_succ]
  rw[ih];rfl
theorem zCD.set{w:World}{g:Nat}{l:List Rt}(h:zCD w g l){k:Nat}(hk:k<l.length)(p q:Int):zCD ((w.setCell ⟨g,k*2,none⟩ (.int .i64 p)).setCell ⟨g,k*2+1,none⟩ (.int .i64 q)) g (l.set k (p,q)):=by
 unfold zCD
 rw[zBA (zBA h (k*2) (.int .i64 p)) (k*2+1) (.int .i64 q),<- zKP l k p q hk]
 congr 2
 apply Array.toList_inj.1
 simp
theorem zCD.own{w:World}{base g n:Nat}{l:List Rt}(h:zCD w g l)(hl:l.length=n)(hn:n<=maxLen)(hb:base<=g):zEM w base (.slice (some ⟨g,0,none⟩) n n) l:=by
 subst hl
 refine⟨zBF l,.inr ⟨g,_,_,rfl,hb,h,Nat.le_refl _,hn,by simp[zBF],?_⟩⟩
 rw[<- zBF l];simp
theorem ratVals_rep(n:Nat):zAK (List.replicate n (0,0))=List.replicate (n*2) (.int .i64 0):=by
 induction n with
 |zero=>rfl
 |succ n ih=>
  rw[List.replicate_succ,show(n+1)*2=n*2+1+1 by omega,List.replicate_succ,List.replicate_succ,<- ih];rfl
theorem made_rat(w:World)(n:Nat):zCD (w.alloc (.cells (madeCells #[.int .i64 0,.int .i64 0] (n*2)) 29)) w.heap.size (List.replicate n (0,0)):=by
 have e:madeCells #[Value.int .i64 0,.int .i64 0] (n*2)=(zAK (List.replicate n (0,0))).toArray:=by
  rw[ratVals_rep]
  apply Array.ext
  ·simp[size_madeCells]
  ·intro i h1 h2
   have:i%2=0∨i%2=1:=by omega
   rcases this with h|h<;>simp[madeCells,h]
 unfold zCD
 rw[World.alloc_heap_new,e]
theorem run_make_rat(n:Nat)(hn:n<=1000)(w:World):(Instr.makeSlice 42 (.int .i64 (n:Int)) (.int .i64 (n:Int))).run Tryz.prog w=.ok (.slice (some ⟨w.heap.size,0,none⟩) n n) (w.alloc (.cells (madeCells #[.int .i64 0,.int .i64 0] (n*2)) 29)):=by
 obtain⟨i,hi,hz0,hz1,hz2⟩:=info_parts zIU
 have:=run_makeSlice w 42 29 i _ Tryz.underlying42 hi hz0 .i64 .i64 (n:Int) (n:Int) (by omega) (by omega) (by rw[hz1];omega) (by rw[hz2];omega) (by omega)
 rw[this,hz1];rfl
def addY(L:List (List Int))(y:List Int)(k:Nat):List (List Int):=zAF (L.take k) (y.take k)++L.drop k
end
end
section
section
open Go.RowKit
end
section
open Go.RowKit
end
end
end
section
section
theorem zDU{α:Type}(f:Nat->α)(g:Nat->Nat)(l:List α):∀(K:Nat),((List.range K).foldl (fun out i=>out.set (g i) (f i)) l).length=l.length
 |0=>by simp
 |K+1=>by rw[List.range_succ,List.foldl_append];simp[zDU f g l K]
theorem zJO{α:Type}(f:Nat->α)(g:Nat->Nat)(l:List α):∀(K i:Nat),i<K->g i<l.length->(∀a b,a<b->b<K->g a≠g b)->((List.range K).foldl (fun out i=>out.set (g i) (f i)) l)[g i]? =some (f i)
 |0,i,h,_,_=>by omega
 |K+1,i,h,hl,hd=>by
  rw[List.range_succ,List.foldl_append]
  simp only[List.foldl_cons,List.foldl_nil]
  by_cases e:i=K
  ·subst e
   rw[List.getElem?_set_self (by rw[zDU];exact hl)]
  ·rw[List.getElem?_set_ne (fun e2=>hd i K (by omega) (by omega) e2.symm)]
   exact zJO f g l K i (by omega) hl (fun a b h1 h2=>hd a b h1 (by omega))
end
section
open Go.RowKit
def rdE(M:Mask)(y:List Int):Int:=if okM M=true then readE M y else 1
theorem zGI(M:Mask)(y:List Int):rdE M y=zBJ M y []:=by
 unfold rdE zBJ readE pixE zFC
 cases okM M<;>simp[ascB]
theorem zIR{M:Mask}{y:List Int}(h:rdE M y=0):okM M=true∧y.length=M.length∧milB y=true:=by
 rw[zGI]at h
 obtain⟨h1,h2,h3,_⟩:=zIF h
 exact⟨h1,h2,h3⟩
end
section
open Go.RowKit
end
section
open Go.RowKit
end
end
section
open Go.RowKit
open Classical in
noncomputable def lift (W X:World):World:=if Below W.heap.size W X then X else W
theorem zCP(W X:World):Below W.heap.size W (lift W X):=by
 unfold lift;split
 ·assumption
 ·exact Below.refl _ _
theorem lift_of{W X:World}(h:Below W.heap.size W X):X=lift W X:=by unfold lift;rw[if_pos h]
theorem zAR{W:World}{b o:Nat}{v:Value}(hb:b<W.heap.size)(h:W.cell? ⟨b,o,none⟩=some v):∀X,(lift W X).cell? ⟨b,o,none⟩=some v:=fun X=>((zCP W X).cell (p:=⟨b,o,none⟩) hb).trans h
theorem zBV{P:Program}{f:FuncId}{args:Array Value}{W X:World}{v:Value}(h:Calls P f args (lift W X) fun e w'=>e=.returned v∧Below (lift W X).heap.size (lift W X) w'):
 Calls P f args (lift W X) fun e w''=>e=.returned v∧∃Y,w''=lift W Y:=
 h.mono fun e w' ⟨he,hb⟩=>⟨he,w',lift_of (zAB (zCP W X) hb)⟩
theorem zCY{P:Program}{id:Nat}{Q:Exit->Act->World->Prop}{a:Act}{w:World}{l:List Oper}(hm:P.follows .mixedOrders=true)(hB:Region.lexB .any l.toArray=true)
 (h:wpQuiet P l.toArray (fun w'=>∃X,w'=lift w X) (fun a'=>∀w',(∃X,w'=lift w X)->Q .normal a' w') l a):(Code.region id l.toArray true).wp P Q a w:=
 wp_region_quiet (C:=fun w'=>∃X,w'=lift w X) hm hB ⟨_,lift_of (⟨rfl,rfl,rfl,Nat.le_refl _,fun _ _=>rfl⟩:Below w.heap.size w {w with drawn:=w.drawn+1})⟩ (by simpa using h)
end
section
section
open Go.RowKit Go.Lib
def zBZ(V:Int):Value:=.agg #[.int .i64 (V/18446744073709551616),.int .u64 (V%18446744073709551616)]
def cmpI(V U:Int):Int:=if V<U then-1 else if V=U then 0 else 1
theorem size_c(w:World)(n:Int)(h: -9223372036854775808<=n∧n<=9223372036854775807):Calls Tryz.prog 210 #[.int .i64 n] w fun e w'=>e=.returned (.int .u64 (n.natAbs:Nat))∧w=w':=by
 obtain⟨m,hm⟩:∃m:Int,m=(n.natAbs:Nat):=⟨_,rfl⟩
 rw[<- hm]
 by_cases h0:n<0
 ·have h1:IntKind.u64.wrap n=18446744073709551616+n:=by rw[IntKind.wrap_u64];omega
  have h2:IntKind.u64.wrap (-(18446744073709551616+n))=m:=by rw[IntKind.wrap_u64];omega
  clear hm
  go_enter Tryz.func210,Tryz.ntmps210
  go_wp2
  go_ret
  exact⟨rfl,rfl⟩
 ·have h1:IntKind.u64.wrap n=m:=by rw[IntKind.wrap_u64];omega
  clear hm
  go_enter Tryz.func210,Tryz.ntmps210
  go_wp2
  go_ret
  exact⟨rfl,rfl⟩
theorem mul64_c(x y:Nat)(hx:x<18446744073709551616)(hy:y<18446744073709551616)(w:World):
 Calls Tryz.prog 209 #[.int .u64 x,.int .u64 y] w fun e w'=>e=.returned (.tuple #[.int .u64 ((x*y/18446744073709551616:Nat):Int),.int .u64 ((x*y%18446744073709551616:Nat):Int)])∧w=w':=by
 obtain⟨bd,bt,bw,hhi⟩:=mul64_hi x y hx hy
 have ba:=half_mul_le (a:=x/4294967296) (b:=y/4294967296) (by omega) (by omega)
 have bb:=half_mul_le (a:=x/4294967296) (b:=y%4294967296) (by omega) (by omega)
 have bc:=half_mul_le (a:=x%4294967296) (b:=y/4294967296) (by omega) (by omega)
 have ba':x/4294967296*(y/4294967296)<18446744073709551616:=by omega
 have bb':x/4294967296*(y%4294967296)<18446744073709551616:=by omega
 have bc':x%4294967296*(y/4294967296)<18446744073709551616:=by omega
 have bh1:x/4294967296*(y/4294967296)+(x/4294967296*(y%4294967296)+x%4294967296*(y%4294967296)/4294967296)/4294967296<18446744073709551616:=by omega
 have bh:x/4294967296*(y/4294967296)+(x/4294967296*(y%4294967296)+x%4294967296*(y%4294967296)/4294967296)/4294967296+((x/4294967296*(y%4294967296)+x%4294967296*(y%4294967296)/4294967296)%4294967296+x%4294967296*(y/4294967296))/4294967296<18446744073709551616:=by omega
 go_enter Tryz.func209,Tryz.ntmps209
 go_wp2
 simp only[Mul64.maskN x hx,Mul64.maskN y hy,Mul64.divN,Mul64.mulN,Mul64.addN,Mul64.wrapN _ bd,Mul64.wrapN _ bb',Mul64.wrapN _ bt,Mul64.maskN _ bt,Mul64.wrapN _ bc',Mul64.wrapN _ bw,Mul64.wrapN _ ba',Mul64.wrapN _ bh1,Mul64.wrapN _ bh,Mul64.wrapM (x*y)]
 rw[hhi]
 go_ret2
 exact⟨rfl,rfl⟩
theorem sub64(x y b:Int)(hx:0<=x)(hy:0<=y)(hy':y<18446744073709551616)(hb0:0<=b)(hb:b<=1)(w:World):(callFunc 208 #[.int .u64 x,.int .u64 y,.int .u64 b]).run Tryz.prog w=
 .ok (.value (.tuple #[.int .u64 ((x-y-b)%18446744073709551616),.int .u64 (if x<y+b then 1 else 0)])) w:=by
 obtain⟨x,rfl⟩:=Int.eq_ofNat_of_zero_le hx
 obtain⟨y,rfl⟩:=Int.eq_ofNat_of_zero_le hy
 obtain⟨b,rfl⟩:=Int.eq_ofNat_of_zero_le hb0
 have e1:(((x+18446744073709551616-y-b)%18446744073709551616:Nat):Int)=((x:Int)-y-b)%18446744073709551616:=by omega
 have e2:((if x<y+b then 1 else 0:Nat):Int)=if (x:Int)<y+b then 1 else 0:=by split<;>split<;>omega
 rw[<- e1,<- e2]
 rw[run_callFunc_extern Tryz.func208 (by kernel_rfl) (by kernel_rfl) (by kernel_rfl) (e:=sub64Entry) (by kernel_rfl),run_sub64 x y b (by omega)]
 rfl
theorem sub64_0(x y:Int)(hx:0<=x)(hy:0<=y)(hy':y<18446744073709551616)(w:World):(callFunc 208 #[.int .u64 x,.int .u64 y,.int .u64 0]).run Tryz.prog w=
 .ok (.value (.tuple #[.int .u64 ((x-y)%18446744073709551616),.int .u64 (if x<y then 1 else 0)])) w:=by
 simpa using sub64 x y 0 hx hy hy' (Int.le_refl 0) (by decide) w
theorem opp_c(w:World)(h l:Int)(h0:0<=h)(h1:h<=4611686018427387904)(l0:0<=l)(l1:l<18446744073709551616):
 Calls Tryz.prog 149 #[.agg #[.int .i64 h,.int .u64 l]] w fun e w'=>e=.returned (zBZ (-(h*18446744073709551616+l)))∧Below w.heap.size w w':=by
 obtain⟨b,hb⟩:∃b:Int,b=if (0:Int)<l then 1 else 0:=⟨_,rfl⟩
 have b0:0<=b:=by rw[hb];split<;>decide
 have b1:b<=1:=by rw[hb];split<;>decide
 have hL:(0-l)%18446744073709551616=(-(h*18446744073709551616+l))%18446744073709551616:=by omega
 have hH:IntKind.i64.wrap ((0-h-b)%18446744073709551616)=(-(h*18446744073709551616+l))/18446744073709551616:=by
  rw[IntKind.wrap_i64]
  rcases Int.lt_or_le 0 l with hl|hl
  ·rw[if_pos hl]at hb;subst hb;omega
  ·rw[if_neg (by omega)]at hb;subst hb;omega
 have hu:IntKind.u64.wrap h=h:=by rw[IntKind.wrap_u64];omega
 have s1:∀w,(callFunc 208 #[.int .u64 0,.int .u64 l,.int .u64 0]).run Tryz.prog w=.ok (.value (.tuple #[.int .u64 ((-(h*18446744073709551616+l))%18446744073709551616),.int .u64 b])) w:=fun w=>by
  rw[sub64_0 0 l (by decide) l0 l1,<- hb,hL]
 have s2:∀w,(callFunc 208 #[.int .u64 0,.int .u64 h,.int .u64 b]).run Tryz.prog w=.ok (.value (.tuple #[.int .u64 ((0-h-b)%18446744073709551616),.int .u64 (if 0<h+b then 1 else 0)])) w:=fun w=>sub64 0 h b (by decide) h0 (by omega) b0 b1 w
 obtain⟨bo,hbo⟩:∃bo:Int,bo=if 0<h+b then 1 else 0:=⟨_,rfl⟩
 rw[<- hbo]at s2
 unfold zBZ
 obtain⟨R1,hR1⟩:=exq ((-(h*18446744073709551616+l))/18446744073709551616)
 obtain⟨R2,hR2⟩:=exq ((-(h*18446744073709551616+l))%18446744073709551616)
 obtain⟨R3,hR3⟩:=exq ((0-h-b)%18446744073709551616)
 rw[<- hR2]at s1
 rw[<- hR3]at s2 hH
 rw[<- hR1]at hH
 rw[<- hR1,<- hR2]
 clear hL hb hbo hR1 hR2 hR3 b0 b1
 go_enter Tryz.func149,Tryz.ntmps149
 go_wp2_with (first|simp only[s1]|simp only[s2])
 simp[bodyPost,results,Tryz.results149,go_sem]
 exact((Below.refl _ _).alloc (Nat.le_refl _) _).alloc (by simp) _
theorem cmp_lex{V U:Int}:(V/18446744073709551616<U/18446744073709551616->V<U)∧(U/18446744073709551616<V/18446744073709551616->U<V)∧
 (V/18446744073709551616=U/18446744073709551616->V%18446744073709551616<U%18446744073709551616->V<U)∧(V/18446744073709551616=U/18446744073709551616->U%18446744073709551616<V%18446744073709551616->U<V)∧
 (V/18446744073709551616=U/18446744073709551616->V%18446744073709551616=U%18446744073709551616->V=U):=by omega
theorem zDJ(w:World)(V U:Int):Calls Tryz.prog 207 #[zBZ V,zBZ U] w fun e w'=>e=.returned (.int .i64 (cmpI V U))∧Below w.heap.size w w':=by
 obtain⟨k1,k2,k3,k4,k5⟩:=cmp_lex (V:=V) (U:=U)
 unfold zBZ
 obtain⟨h,hh⟩:=exq (V/18446744073709551616)
 obtain⟨l,hl⟩:=exq (V%18446744073709551616)
 obtain⟨h',hh'⟩:∃h,h=U/18446744073709551616:=⟨_,rfl⟩
 obtain⟨l',hl'⟩:∃h,h=U%18446744073709551616:=⟨_,rfl⟩
 rw[<- hh,<- hl,<- hh',<- hl']
 rw[<- hh,<- hh']at k1 k2 k3 k4 k5
 rw[<- hl,<- hl']at k3 k4 k5
 clear hh hl hh' hl'
 obtain⟨C,hC⟩:=exq (cmpI V U)
 rw[<- hC]
 have HBL:=hid (show Below w.heap.size w ((w.alloc (.cells #[.int .i64 h,.int .u64 l] 100)).alloc (.cells #[.int .i64 h',.int .u64 l'] 100))from((Below.refl _ _).alloc (Nat.le_refl _) _).alloc (by simp) _)
 rcases Int.lt_trichotomy h h' with c1|c1|c1
 ·have hv:=k1 c1
  obtain rfl:C= -1:=by rw[hC];unfold cmpI;rw[if_pos hv]
  have hne:(h==h')=false:=by simp;omega
  have hne2:¬h=h':=by omega
  clear hC k1 k2 k3 k4 k5
  go_enter Tryz.func207,Tryz.ntmps207
  go_wp2
  go_ret
  exact⟨rfl,HBL.out⟩
 ·subst c1
  rcases Int.lt_trichotomy l l' with c2|c2|c2
  ·have hv:=k3 rfl c2
   obtain rfl:C= -1:=by rw[hC];unfold cmpI;rw[if_pos hv]
   have hne:(l==l')=false:=by simp;omega
   have hne2:¬l=l':=by omega
   clear hC k1 k2 k3 k4 k5
   go_enter Tryz.func207,Tryz.ntmps207
   go_wp2
   go_ret
   exact⟨rfl,HBL.out⟩
  ·subst c2
   have hv:=k5 rfl rfl
   obtain rfl:C=0:=by rw[hC];unfold cmpI;rw[if_neg (by omega),if_pos hv]
   clear hC k1 k2 k3 k4 k5
   go_enter Tryz.func207,Tryz.ntmps207
   go_wp2
   go_ret
   exact⟨rfl,HBL.out⟩
  ·have hv:=k4 rfl c2
   obtain rfl:C=1:=by rw[hC];unfold cmpI;rw[if_neg (by omega),if_neg (by omega)]
   have hne:(l==l')=false:=by simp;omega
   have hne2:¬l=l':=by omega
   have hnl:¬l<l':=by omega
   clear hC k1 k2 k3 k4 k5
   go_enter Tryz.func207,Tryz.ntmps207
   go_wp2
   go_ret
   exact⟨rfl,HBL.out⟩
 ·have hv:=k2 c1
  obtain rfl:C=1:=by rw[hC];unfold cmpI;rw[if_neg (by omega),if_neg (by omega)]
  have hne:(h==h')=false:=by simp;omega
  have hne2:¬h=h':=by omega
  have hnl:¬h<h':=by omega
  clear hC k1 k2 k3 k4 k5
  go_enter Tryz.func207,Tryz.ntmps207
  go_wp2
  go_ret
  exact⟨rfl,HBL.out⟩
theorem prod_sign(a b:Int):((decide (a<0) !=decide (b<0))=true->a*b= -(((a.natAbs*b.natAbs:Nat):Int)))∧((decide (a<0) !=decide (b<0))=false->a*b=((a.natAbs*b.natAbs:Nat):Int)):=by
 rw[Int.natCast_mul]
 rcases Int.lt_or_le a 0 with h1|h1<;>rcases Int.lt_or_le b 0 with h2|h2
 ·have e1:((a.natAbs:Nat):Int)= -a:=by omega
  have e2:((b.natAbs:Nat):Int)= -b:=by omega
  rw[e1,e2]
  simp[h1,h2]
  try grind
 ·have e1:((a.natAbs:Nat):Int)= -a:=by omega
  have e2:((b.natAbs:Nat):Int)=b:=by omega
  rw[e1,e2]
  simp[h1,Int.not_lt.2 h2]
  try grind
 ·have e1:((a.natAbs:Nat):Int)=a:=by omega
  have e2:((b.natAbs:Nat):Int)= -b:=by omega
  rw[e1,e2]
  simp[Int.not_lt.2 h1,h2]
  try grind
 ·have e1:((a.natAbs:Nat):Int)=a:=by omega
  have e2:((b.natAbs:Nat):Int)=b:=by omega
  rw[e1,e2]
  simp[Int.not_lt.2 h1,Int.not_lt.2 h2]
theorem zHM(w:World)(a b:Int)(ha: -9223372036854775808<=a∧a<=9223372036854775807)(hb: -9223372036854775808<=b∧b<=9223372036854775807):
 Calls Tryz.prog 235 #[.int .i64 a,.int .i64 b] w fun e w'=>e=.returned (zBZ (a*b))∧Below w.heap.size w w':=by
 obtain⟨s1,s2⟩:=prod_sign a b
 have HS1:=hid (fun X=>size_c X a ha)
 have HS2:=hid (fun X=>size_c X b hb)
 obtain⟨x,hx⟩:=exq (a.natAbs)
 obtain⟨y,hy⟩:=exq (b.natAbs)
 rw[<- hx,<- hy]at s1 s2
 rw[<- hx]at HS1
 rw[<- hy]at HS2
 have hx1:x<=9223372036854775808:=by omega
 have hy1:y<=9223372036854775808:=by omega
 have hp:x*y<=9223372036854775808*9223372036854775808:=Nat.mul_le_mul hx1 hy1
 have HM:=hid (fun X=>mul64_c x y (by omega) (by omega) X)
 obtain⟨P,hP⟩:=exq (x*y)
 rw[<- hP]at s1 s2 hp HM
 obtain⟨H,hH⟩:∃H:Int,H=((P/18446744073709551616:Nat):Int):=⟨_,rfl⟩
 obtain⟨Lo,hLo⟩:∃H:Int,H=((P%18446744073709551616:Nat):Int):=⟨_,rfl⟩
 rw[<- hH,<- hLo]at HM
 have h0:0<=H:=by omega
 have h1:H<=4611686018427387904:=by omega
 have l0:0<=Lo:=by omega
 have l1:Lo<18446744073709551616:=by omega
 have hw:IntKind.i64.wrap H=H:=IntWalk.i64_in _ (by omega)
 have heq:H*18446744073709551616+Lo=(P:Int):=by omega
 have HO:=hid (fun X=>opp_c X H Lo h0 h1 l0 l1)
 rw[heq]at HO
 have hwv:zBZ (P:Int)=.agg #[.int .i64 H,.int .u64 Lo]:=by
  unfold zBZ
  rw[show(P:Int)/18446744073709551616=H by omega,show(P:Int)%18446744073709551616=Lo by omega]
 by_cases ha0:a<0<;>by_cases hb0:b<0
 ·skip
  have hd1:decide (a<0)=true:=by simp[ha0]
  have hd2:decide (b<0)=true:=by simp[hb0]
  have e:=s2 (by simp[ha0,hb0])
  rw[e,hwv]
  clear s1 s2 hx hy hP hH hLo heq hwv e HO hp
  go_enter Tryz.func235,Tryz.ntmps235
  go_wp2_with (go_at_call 210;refine(HS1.out _).mono ?_;rintro e w1 ⟨rfl,rfl⟩;refine Stop.of ?_)
  refine Stop.go ?_
  go_wp2_with (go_at_call 210;refine(HS2.out _).mono ?_;rintro e w1 ⟨rfl,rfl⟩;refine Stop.of ?_)
  refine Stop.go ?_
  go_wp2_with (go_at_call 209;refine(HM.out _).mono ?_;rintro e w1 ⟨rfl,rfl⟩;refine Stop.of ?_)
  refine Stop.go ?_
  go_wp2
  simp[bodyPost,results,Tryz.results235,go_sem]
  exact((Below.refl _ _).alloc (Nat.le_refl _) _).alloc (by simp) _
 ·skip
  have hd1:decide (a<0)=true:=by simp[ha0]
  have hd2:decide (b<0)=false:=by simp[hb0]
  have e:=s1 (by simp[ha0,hb0])
  rw[e]
  obtain⟨R1,hR1⟩:=exq ((-(P:Int))/18446744073709551616)
  obtain⟨R2,hR2⟩:=exq ((-(P:Int))%18446744073709551616)
  have hwn:zBZ (-(P:Int))=.agg #[.int .i64 R1,.int .u64 R2]:=by unfold zBZ;rw[hR1,hR2]
  rw[hwn]at HO⊢
  clear s1 s2 hx hy hP hH hLo heq hwv e hp hR1 hR2 hwn
  go_enter Tryz.func235,Tryz.ntmps235
  go_wp2_with (go_at_call 210;refine(HS1.out _).mono ?_;rintro e w1 ⟨rfl,rfl⟩;refine Stop.of ?_)
  refine Stop.go ?_
  go_wp2_with (go_at_call 210;refine(HS2.out _).mono ?_;rintro e w1 ⟨rfl,rfl⟩;refine Stop.of ?_)
  refine Stop.go ?_
  go_wp2_with (go_at_call 209;refine(HM.out _).mono ?_;rintro e w1 ⟨rfl,rfl⟩;refine Stop.of ?_)
  refine Stop.go ?_
  go_wp2_with (go_at_call 149;refine(HO.out _).mono ?_;rintro e w2 ⟨rfl,hb2⟩;refine Stop.of ?_)
  refine Stop.go ?_
  have hba:Below w.heap.size w ((w.alloc (.cells #[.int .i64 0,.int .u64 0] 100)).alloc (.cells #[.int .i64 H,.int .u64 Lo] 100)):=((Below.refl _ _).alloc (Nat.le_refl _) _).alloc (by simp) _
  have hbx:=zAB hba hb2
  have c0:w2.cell? ⟨w.heap.size,0,none⟩=some (.int .i64 0):=((bcell hb2).1 w.heap.size 0 (by simp;omega)).trans (by rw[World.cell?_alloc_past _ _ _ (by simp),World.cell?_alloc_at _ _ _ _ rfl];rfl)
  have c1:w2.cell? ⟨w.heap.size,1,none⟩=some (.int .u64 0):=((bcell hb2).1 w.heap.size 1 (by simp;omega)).trans (by rw[World.cell?_alloc_past _ _ _ (by simp),World.cell?_alloc_at _ _ _ _ rfl];rfl)
  have hlt2:w.heap.size<w2.heap.size:=by have:=hb2.size;simp at this;omega
  have f0:w2.frozen? ⟨w.heap.size,0,none⟩=false:=((bcell hb2).2 w.heap.size 0 (by simp;omega)).trans (by simp[go_sem])
  have f1:w2.frozen? ⟨w.heap.size,1,none⟩=false:=((bcell hb2).2 w.heap.size 1 (by simp;omega)).trans (by simp[go_sem])
  go_wp2
  simp[bodyPost,results,Tryz.results235,go_sem,c0,c1,f0,f1,hlt2]
  exact zAM (zAM hbx (Nat.le_refl _) 0 _) (Nat.le_refl _) 1 _
 ·skip
  have hd1:decide (a<0)=false:=by simp[ha0]
  have hd2:decide (b<0)=true:=by simp[hb0]
  have e:=s1 (by simp[ha0,hb0])
  rw[e]
  obtain⟨R1,hR1⟩:=exq ((-(P:Int))/18446744073709551616)
  obtain⟨R2,hR2⟩:=exq ((-(P:Int))%18446744073709551616)
  have hwn:zBZ (-(P:Int))=.agg #[.int .i64 R1,.int .u64 R2]:=by unfold zBZ;rw[hR1,hR2]
  rw[hwn]at HO⊢
  clear s1 s2 hx hy hP hH hLo heq hwv e hp hR1 hR2 hwn
  go_enter Tryz.func235,Tryz.ntmps235
  go_wp2_with (go_at_call 210;refine(HS1.out _).mono ?_;rintro e w1 ⟨rfl,rfl⟩;refine Stop.of ?_)
  refine Stop.go ?_
  go_wp2_with (go_at_call 210;refine(HS2.out _).mono ?_;rintro e w1 ⟨rfl,rfl⟩;refine Stop.of ?_)
  refine Stop.go ?_
  go_wp2_with (go_at_call 209;refine(HM.out _).mono ?_;rintro e w1 ⟨rfl,rfl⟩;refine Stop.of ?_)
  refine Stop.go ?_
  go_wp2_with (go_at_call 149;refine(HO.out _).mono ?_;rintro e w2 ⟨rfl,hb2⟩;refine Stop.of ?_)
  refine Stop.go ?_
  have hba:Below w.heap.size w ((w.alloc (.cells #[.int .i64 0,.int .u64 0] 100)).alloc (.cells #[.int .i64 H,.int .u64 Lo] 100)):=((Below.refl _ _).alloc (Nat.le_refl _) _).alloc (by simp) _
  have hbx:=zAB hba hb2
  have c0:w2.cell? ⟨w.heap.size,0,none⟩=some (.int .i64 0):=((bcell hb2).1 w.heap.size 0 (by simp;omega)).trans (by rw[World.cell?_alloc_past _ _ _ (by simp),World.cell?_alloc_at _ _ _ _ rfl];rfl)
  have c1:w2.cell? ⟨w.heap.size,1,none⟩=some (.int .u64 0):=((bcell hb2).1 w.heap.size 1 (by simp;omega)).trans (by rw[World.cell?_alloc_past _ _ _ (by simp),World.cell?_alloc_at _ _ _ _ rfl];rfl)
  have hlt2:w.heap.size<w2.heap.size:=by have:=hb2.size;simp at this;omega
  have f0:w2.frozen? ⟨w.heap.size,0,none⟩=false:=((bcell hb2).2 w.heap.size 0 (by simp;omega)).trans (by simp[go_sem])
  have f1:w2.frozen? ⟨w.heap.size,1,none⟩=false:=((bcell hb2).2 w.heap.size 1 (by simp;omega)).trans (by simp[go_sem])
  go_wp2
  simp[bodyPost,results,Tryz.results235,go_sem,c0,c1,f0,f1,hlt2]
  exact zAM (zAM hbx (Nat.le_refl _) 0 _) (Nat.le_refl _) 1 _
 ·skip
  have hd1:decide (a<0)=false:=by simp[ha0]
  have hd2:decide (b<0)=false:=by simp[hb0]
  have e:=s2 (by simp[ha0,hb0])
  rw[e,hwv]
  clear s1 s2 hx hy hP hH hLo heq hwv e HO hp
  go_enter Tryz.func235,Tryz.ntmps235
  go_wp2_with (go_at_call 210;refine(HS1.out _).mono ?_;rintro e w1 ⟨rfl,rfl⟩;refine Stop.of ?_)
  refine Stop.go ?_
  go_wp2_with (go_at_call 210;refine(HS2.out _).mono ?_;rintro e w1 ⟨rfl,rfl⟩;refine Stop.of ?_)
  refine Stop.go ?_
  go_wp2_with (go_at_call 209;refine(HM.out _).mono ?_;rintro e w1 ⟨rfl,rfl⟩;refine Stop.of ?_)
  refine Stop.go ?_
  go_wp2
  simp[bodyPost,results,Tryz.results235,go_sem]
  exact((Below.refl _ _).alloc (Nat.le_refl _) _).alloc (by simp) _
end
section
open Go.RowKit
def dF(d:Int):Int:=if d<1 then 1 else d
def cmpR(an ad bn bd:Int):Int:=cmpI (an*dF bd) (bn*dF ad)
def F64(n:Int):Prop:= -9223372036854775808<=n∧n<=9223372036854775807
theorem fcompare_c(w:World)(an ad bn bd:Int)(h1:F64 an)(h2:F64 ad)(h3:F64 bn)(h4:F64 bd):
 Calls Tryz.prog 198 #[.agg #[.int .i64 an,.int .i64 ad],.agg #[.int .i64 bn,.int .i64 bd]] w fun e w'=>e=.returned (.int .i64 (cmpR an ad bn bd))∧Below w.heap.size w w':=by
 obtain⟨h1a,h1b⟩:=h1
 obtain⟨h2a,h2b⟩:=h2
 obtain⟨h3a,h3b⟩:=h3
 obtain⟨h4a,h4b⟩:=h4
 unfold cmpR dF
 by_cases c1:ad<1<;>by_cases c2:bd<1
 ·rw[if_pos c1,if_pos c2]
  obtain⟨C,hC⟩:=exq (cmpI (an*1) (bn*1))
  rw[<- hC]
  have HCC:=hid hC
  obtain⟨wz,hwz⟩:=exq ((w.alloc (.cells #[.int .i64 an,.int .i64 1] 29)).alloc (.cells #[.int .i64 bn,.int .i64 1] 29))
  have hbz:Below w.heap.size w wz:=by rw[hwz];exact((Below.refl _ _).alloc (Nat.le_refl _) _).alloc (by simp) _
  have hsz:wz.heap.size=w.heap.size+2:=by rw[hwz];simp
  have l0:=zAR (W:=wz) (b:=w.heap.size) (o:=0) (by omega) (show wz.cell? ⟨w.heap.size,0,none⟩=some (.int .i64 an)by rw[hwz,World.cell?_alloc_past _ _ _ (by simp),World.cell?_alloc_at _ _ _ _ rfl];rfl)
  have l1:=zAR (W:=wz) (b:=w.heap.size) (o:=1) (by omega) (show wz.cell? ⟨w.heap.size,1,none⟩=some (.int .i64 1)by rw[hwz,World.cell?_alloc_past _ _ _ (by simp),World.cell?_alloc_at _ _ _ _ rfl];rfl)
  have l2:=zAR (W:=wz) (b:=w.heap.size+1) (o:=0) (by omega) (show wz.cell? ⟨w.heap.size+1,0,none⟩=some (.int .i64 bn)by rw[hwz,World.cell?_alloc_at _ _ _ _ (by simp)];rfl)
  have l3:=zAR (W:=wz) (b:=w.heap.size+1) (o:=1) (by omega) (show wz.cell? ⟨w.heap.size+1,1,none⟩=some (.int .i64 1)by rw[hwz,World.cell?_alloc_at _ _ _ _ (by simp)];rfl)
  have HWZ:=hid hwz
  have HBZ:=hid hbz
  clear hC hwz hbz hsz
  go_enter Tryz.func198,Tryz.ntmps198
  go_wp2
  rw[<- HWZ.out]
  refine zCY (by kernel_rfl) (by kernel_rfl) ?_
  repeat (go_big_quiet_step (first
   | (go_at_call 235;exact zBV (zHM _ _ _ (by omega) (by omega)))
   | (go_at_call 207;exact zBV (zDJ _ _ _))))
  refine wpQuiet_nil ?_
  rintro _ ⟨X,rfl⟩
  have hfin:=zAB HBZ.out (zCP wz X)
  go_wp2
  go_ret
  exact⟨zBP (by rw[HCC.out];try simp),hfin⟩
 ·rw[if_pos c1,if_neg c2]
  obtain⟨C,hC⟩:=exq (cmpI (an*bd) (bn*1))
  rw[<- hC]
  have HCC:=hid hC
  obtain⟨wz,hwz⟩:=exq ((w.alloc (.cells #[.int .i64 an,.int .i64 1] 29)).alloc (.cells #[.int .i64 bn,.int .i64 bd] 29))
  have hbz:Below w.heap.size w wz:=by rw[hwz];exact((Below.refl _ _).alloc (Nat.le_refl _) _).alloc (by simp) _
  have hsz:wz.heap.size=w.heap.size+2:=by rw[hwz];simp
  have l0:=zAR (W:=wz) (b:=w.heap.size) (o:=0) (by omega) (show wz.cell? ⟨w.heap.size,0,none⟩=some (.int .i64 an)by rw[hwz,World.cell?_alloc_past _ _ _ (by simp),World.cell?_alloc_at _ _ _ _ rfl];rfl)
  have l1:=zAR (W:=wz) (b:=w.heap.size) (o:=1) (by omega) (show wz.cell? ⟨w.heap.size,1,none⟩=some (.int .i64 1)by rw[hwz,World.cell?_alloc_past _ _ _ (by simp),World.cell?_alloc_at _ _ _ _ rfl];rfl)
  have l2:=zAR (W:=wz) (b:=w.heap.size+1) (o:=0) (by omega) (show wz.cell? ⟨w.heap.size+1,0,none⟩=some (.int .i64 bn)by rw[hwz,World.cell?_alloc_at _ _ _ _ (by simp)];rfl)
  have l3:=zAR (W:=wz) (b:=w.heap.size+1) (o:=1) (by omega) (show wz.cell? ⟨w.heap.size+1,1,none⟩=some (.int .i64 bd)by rw[hwz,World.cell?_alloc_at _ _ _ _ (by simp)];rfl)
  have HWZ:=hid hwz
  have HBZ:=hid hbz
  clear hC hwz hbz hsz
  go_enter Tryz.func198,Tryz.ntmps198
  go_wp2
  rw[<- HWZ.out]
  refine zCY (by kernel_rfl) (by kernel_rfl) ?_
  repeat (go_big_quiet_step (first
   | (go_at_call 235;exact zBV (zHM _ _ _ (by omega) (by omega)))
   | (go_at_call 207;exact zBV (zDJ _ _ _))))
  refine wpQuiet_nil ?_
  rintro _ ⟨X,rfl⟩
  have hfin:=zAB HBZ.out (zCP wz X)
  go_wp2
  go_ret
  exact⟨zBP (by rw[HCC.out];try simp),hfin⟩
 ·rw[if_neg c1,if_pos c2]
  obtain⟨C,hC⟩:=exq (cmpI (an*1) (bn*ad))
  rw[<- hC]
  have HCC:=hid hC
  obtain⟨wz,hwz⟩:=exq ((w.alloc (.cells #[.int .i64 an,.int .i64 ad] 29)).alloc (.cells #[.int .i64 bn,.int .i64 1] 29))
  have hbz:Below w.heap.size w wz:=by rw[hwz];exact((Below.refl _ _).alloc (Nat.le_refl _) _).alloc (by simp) _
  have hsz:wz.heap.size=w.heap.size+2:=by rw[hwz];simp
  have l0:=zAR (W:=wz) (b:=w.heap.size) (o:=0) (by omega) (show wz.cell? ⟨w.heap.size,0,none⟩=some (.int .i64 an)by rw[hwz,World.cell?_alloc_past _ _ _ (by simp),World.cell?_alloc_at _ _ _ _ rfl];rfl)
  have l1:=zAR (W:=wz) (b:=w.heap.size) (o:=1) (by omega) (show wz.cell? ⟨w.heap.size,1,none⟩=some (.int .i64 ad)by rw[hwz,World.cell?_alloc_past _ _ _ (by simp),World.cell?_alloc_at _ _ _ _ rfl];rfl)
  have l2:=zAR (W:=wz) (b:=w.heap.size+1) (o:=0) (by omega) (show wz.cell? ⟨w.heap.size+1,0,none⟩=some (.int .i64 bn)by rw[hwz,World.cell?_alloc_at _ _ _ _ (by simp)];rfl)
  have l3:=zAR (W:=wz) (b:=w.heap.size+1) (o:=1) (by omega) (show wz.cell? ⟨w.heap.size+1,1,none⟩=some (.int .i64 1)by rw[hwz,World.cell?_alloc_at _ _ _ _ (by simp)];rfl)
  have HWZ:=hid hwz
  have HBZ:=hid hbz
  clear hC hwz hbz hsz
  go_enter Tryz.func198,Tryz.ntmps198
  go_wp2
  rw[<- HWZ.out]
  refine zCY (by kernel_rfl) (by kernel_rfl) ?_
  repeat (go_big_quiet_step (first
   | (go_at_call 235;exact zBV (zHM _ _ _ (by omega) (by omega)))
   | (go_at_call 207;exact zBV (zDJ _ _ _))))
  refine wpQuiet_nil ?_
  rintro _ ⟨X,rfl⟩
  have hfin:=zAB HBZ.out (zCP wz X)
  go_wp2
  go_ret
  exact⟨zBP (by rw[HCC.out];try simp),hfin⟩
 ·rw[if_neg c1,if_neg c2]
  obtain⟨C,hC⟩:=exq (cmpI (an*bd) (bn*ad))
  rw[<- hC]
  have HCC:=hid hC
  obtain⟨wz,hwz⟩:=exq ((w.alloc (.cells #[.int .i64 an,.int .i64 ad] 29)).alloc (.cells #[.int .i64 bn,.int .i64 bd] 29))
  have hbz:Below w.heap.size w wz:=by rw[hwz];exact((Below.refl _ _).alloc (Nat.le_refl _) _).alloc (by simp) _
  have hsz:wz.heap.size=w.heap.size+2:=by rw[hwz];simp
  have l0:=zAR (W:=wz) (b:=w.heap.size) (o:=0) (by omega) (show wz.cell? ⟨w.heap.size,0,none⟩=some (.int .i64 an)by rw[hwz,World.cell?_alloc_past _ _ _ (by simp),World.cell?_alloc_at _ _ _ _ rfl];rfl)
  have l1:=zAR (W:=wz) (b:=w.heap.size) (o:=1) (by omega) (show wz.cell? ⟨w.heap.size,1,none⟩=some (.int .i64 ad)by rw[hwz,World.cell?_alloc_past _ _ _ (by simp),World.cell?_alloc_at _ _ _ _ rfl];rfl)
  have l2:=zAR (W:=wz) (b:=w.heap.size+1) (o:=0) (by omega) (show wz.cell? ⟨w.heap.size+1,0,none⟩=some (.int .i64 bn)by rw[hwz,World.cell?_alloc_at _ _ _ _ (by simp)];rfl)
  have l3:=zAR (W:=wz) (b:=w.heap.size+1) (o:=1) (by omega) (show wz.cell? ⟨w.heap.size+1,1,none⟩=some (.int .i64 bd)by rw[hwz,World.cell?_alloc_at _ _ _ _ (by simp)];rfl)
  have HWZ:=hid hwz
  have HBZ:=hid hbz
  clear hC hwz hbz hsz
  go_enter Tryz.func198,Tryz.ntmps198
  go_wp2
  rw[<- HWZ.out]
  refine zCY (by kernel_rfl) (by kernel_rfl) ?_
  repeat (go_big_quiet_step (first
   | (go_at_call 235;exact zBV (zHM _ _ _ (by omega) (by omega)))
   | (go_at_call 207;exact zBV (zDJ _ _ _))))
  refine wpQuiet_nil ?_
  rintro _ ⟨X,rfl⟩
  have hfin:=zAB HBZ.out (zCP wz X)
  go_wp2
  go_ret
  exact⟨zBP (by rw[HCC.out];try simp),hfin⟩
theorem lcompare_c(w:World)(an ad bn bd:Int)(h1:F64 an)(h2:F64 ad)(h3:F64 bn)(h4:F64 bd):
 Calls Tryz.prog 136 #[.agg #[.int .i64 an,.int .i64 ad],.agg #[.int .i64 bn,.int .i64 bd]] w fun e w'=>e=.returned (.int .i64 (cmpR an ad bn bd))∧Below w.heap.size w w':=by
 have HC:=hid (fun X=>fcompare_c X an ad bn bd h1 h2 h3 h4)
 obtain⟨C,hC⟩:=exq (cmpR an ad bn bd)
 rw[<- hC]at HC⊢
 have HBL:=hid (show Below w.heap.size w ((w.alloc (.cells #[.int .i64 an,.int .i64 ad] 29)).alloc (.cells #[.int .i64 bn,.int .i64 bd] 29))from((Below.refl _ _).alloc (Nat.le_refl _) _).alloc (by simp) _)
 clear hC
 go_enter Tryz.func136,Tryz.ntmps136
 go_wp2_with (go_at_call 198;refine(HC.out _).mono ?_;rintro e w1 ⟨rfl,hb1⟩)
 go_ret
 exact⟨rfl,zAB HBL.out hb1⟩
end
end
end Go.Proofs.YtlffndehhhpgjaaGreat
