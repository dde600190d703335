/- Walks and plain laws for DualValuesRow, part 4. -/
import Derived.Maps.AppendAt
import Derived.Deep.CutRange
import Derived.Sort.QuietIn
import Derived.Sort.LoopGhostIn
import Derived.Sort.CutIn
import Derived.Test.YtlffndehhhpgjaaGreatPkDualValuesRow3
namespace Go.Proofs.YtlffndehhhpgjaaGreat
set_option linter.unusedVariables false
set_option linter.unusedSimpArgs false
set_option maxRecDepth 100000
set_option maxHeartbeats 4000000
section
open Go.RowKit
def zIP(p:List Int)(j:Nat)(r:List Int)(k:Nat):List Int:=(List.range k).map (fun c=>vec r c*vec p j-vec p c*vec r j)
theorem mixTo_len(p:List Int)(j:Nat)(r:List Int)(k:Nat):(zIP p j r k).length=k:=by simp[zIP]
theorem mixTo_succ(p:List Int)(j:Nat)(r:List Int)(k:Nat):zIP p j r (k+1)=zIP p j r k++[vec r k*vec p j-vec p k*vec r j]:=by
 unfold zIP;rw[List.range_succ,List.map_append];rfl
theorem mixTo_all{p r:List Int}(j:Nat)(h:p.length=r.length):zBA p j r=zDG (zIP p j r r.length):=by
 unfold zBA zIP
 congr 1
 refine List.ext_getElem (by simp[h]) fun i h1 h2=>?_
 simp only[List.length_zipWith,List.length_map,List.length_range]at h1 h2
 simp only[List.getElem_zipWith,List.getElem_map,List.getElem_range]
 rw[zCT (show i<r.length by omega),zCT (show i<p.length by omega)]
theorem zLR(w:World)(a a2:Option Addr)(n cap cap2:Nat)(r p:List Int)(hn:r.length=n)(hn2:p.length=n)(hm:n<=1000)(H:zAI w a r)(H2:zAI w a2 p)(hB:BndL 1073741824 r)(hB2:BndL 1073741824 p)(j:Nat)(hj:j<n):
 Calls Tryz.prog 251 #[.slice a n cap,.slice a2 n cap2,.int .i64 j] w fun e w'=>∃v base,e=.returned v∧w.heap.size<=base∧w'.ownsRow base 3 1 v n ((zBA p j r).map (Value.int .i64))∧Below w.heap.size w w':=by
 rw[mixTo_all j (show p.length=r.length by omega),hn]
 have HN:=hid hn
 have HN2:=hid hn2
 have HH:=hid H
 have HH2:=hid H2
 have HB:=hid hB
 have HB2:=hid hB2
 clear hn hn2 H H2 hB hB2
 go_enter Tryz.func251,Tryz.ntmps251
 go_wp2
 go_loopw [7,11] (fun v i wr=>∃k:Nat,k<=n∧i=.int .i64 k∧wr.ownsRow w.heap.size 3 1 v k ((zIP p j r k).map (Value.int .i64))∧Below w.heap.size w wr) (fun _ i _=>n-(intOf i).toNat)
 case atStart=>exact⟨0,Nat.zero_le _,rfl,World.ownsRow_nil _ _ _ _,Below.refl _ _⟩
 case round=>
  obtain⟨k,hk,rfl,hown,hbt⟩:=hrel
  by_cases hlt:k<n
  ·obtain⟨b,off,rfl,hbs,hc1⟩:=HH.out k (by rw[HN.out];exact hlt)
   obtain⟨b',off',e',_,hc2⟩:=HH.out j (by rw[HN.out];exact hj)
   cases e'
   obtain⟨b2,off2,rfl,hbs2,hc3⟩:=HH2.out k (by rw[HN2.out];exact hlt)
   obtain⟨b2',off2',e',_,hc4⟩:=HH2.out j (by rw[HN2.out];exact hj)
   cases e'
   have d1:=HB.out.get (show k<r.length by rw[HN.out];exact hlt)
   have d2:=HB.out.get (show j<r.length by rw[HN.out];exact hj)
   have d3:=HB2.out.get (show k<p.length by rw[HN2.out];exact hlt)
   have d4:=HB2.out.get (show j<p.length by rw[HN2.out];exact hj)
   have hsn:(zIP p j r (k+1)).map (Value.int .i64)=(zIP p j r k).map (Value.int .i64)++[.int .i64 (r[k]?.getD 0*p[j]?.getD 0-p[k]?.getD 0*r[j]?.getD 0)]:=by rw[mixTo_succ,List.map_append];rfl
   obtain⟨x,hx⟩:=exq (r[k]?.getD 0)
   obtain⟨rj,hrj⟩:=exq (r[j]?.getD 0)
   obtain⟨y,hy⟩:=exq (p[k]?.getD 0)
   obtain⟨pj,hpj⟩:=exq (p[j]?.getD 0)
   rw[<- hx]at hc1 d1 hsn
   rw[<- hrj]at hc2 d2 hsn
   rw[<- hy]at hc3 d3 hsn
   rw[<- hpj]at hc4 d4 hsn
   have e1:=zGR (show-(1073741824:Int)<=x∧x<=1073741824 by omega) (show-(1073741824:Int)<=pj∧pj<=1073741824 by omega)
   have e2:=zGR (show-(1073741824:Int)<=y∧y<=1073741824 by omega) (show-(1073741824:Int)<=rj∧rj<=1073741824 by omega)
   obtain⟨m1,hm1⟩:=exq (x*pj)
   obtain⟨m2,hm2⟩:=exq (y*rj)
   rw[<- hm1,<- hm2]at hsn
   rw[<- hm1]at e1
   rw[<- hm2]at e2
   obtain⟨z,hz⟩:=exq (m1-m2)
   rw[<- hz]at hsn
   have w1:IntKind.i64.wrap (x*pj)=m1:=by rw[<- hm1];exact IntWalk.i64_in _ (by omega)
   have w2:IntKind.i64.wrap (y*rj)=m2:=by rw[<- hm2];exact IntWalk.i64_in _ (by omega)
   have w3:IntKind.i64.wrap (m1-m2)=z:=by rw[<- hz];exact IntWalk.i64_in _ (by omega)
   obtain⟨va,vc,rfl⟩:=zAC hown
   have HSN:=hid hsn
   have HO:=hid hown
   have HBT:=hid hbt
   have HS:=hid (fun(X:World) (hX:Below w.heap.size w X)=>show X.cell? ⟨b,off+k,none⟩=some (.int .i64 x)∧X.cell? ⟨b,off+j,none⟩=some (.int .i64 rj)∧X.cell? ⟨b2,off2+k,none⟩=some (.int .i64 y)∧X.cell? ⟨b2,off2+j,none⟩=some (.int .i64 pj)from
    have hbw:=hX
    ⟨(hbw.cell (p:=⟨b,off+k,none⟩) hbs).trans hc1,(hbw.cell (p:=⟨b,off+j,none⟩) hbs).trans hc2,(hbw.cell (p:=⟨b2,off2+k,none⟩) hbs2).trans hc3,(hbw.cell (p:=⟨b2,off2+j,none⟩) hbs2).trans hc4⟩)
   have M1:=hid (show k+1<=maxLen by unfold maxLen;omega)
   have M2:=hid (show(k+1)*8<=140737488355328 by omega)
   have M3:=hid hbt.size
   have i1:(0:Int)<=(k:Int):=by omega
   have i2:(k:Int)<(n:Int):=by omega
   have i3:(0:Int)<=(j:Int):=by omega
   have i4:(j:Int)<(n:Int):=by omega
   have hbsw:b<w.heap.size∧b2<w.heap.size:=⟨hbs,hbs2⟩
   clear hown hbt hsn hx hrj hy hpj hm1 hm2 hz hc1 hc2 hc3 hc4 d1 d2 d3 d4 e1 e2
   go_wp2
   refine zNF (fun fr fr' X=>∃v14 v15 v16 v17 v18 v19 v20 v21 v22 v23 v24 v25 v26 v27 v28 v29 v30 v31 v32 v33 v34 v35,fr'=(((((((((((((((((((((((fr.put (some 14) v14).put (some 15) v15).put (some 16) v16).put (some 17) v17).put (some 18) v18).put (some 19) v19).put (some 20) v20).put (some 21) v21).put (some 22) v22).put (some 23) v23).put (some 24) v24).put (some 25) v25).put (some 26) v26).put (some 27) v27).put (some 28) v28).put (some 29) v29).put (some 30) v30).put (some 31) v31).put (some 32) v32).put (some 33) v33).put (some 34) v34).put (some 35) v35).put (some 7) v35)∧(∃a3 c3,v35=.slice a3 (k+1) c3)∧X.ownsRow w.heap.size 3 1 v35 (k+1) ((zIP p j r (k+1)).map (Value.int .i64))∧Below w.heap.size w X) ?_ ?_
   ·refine zAF (fun j' X=>wAll j'=true->X.cell? ⟨b,off+k,none⟩=some (.int .i64 x)∧X.cell? ⟨b,off+j,none⟩=some (.int .i64 rj)∧X.cell? ⟨b2,off2+k,none⟩=some (.int .i64 y)∧X.cell? ⟨b2,off2+j,none⟩=some (.int .i64 pj)) (by kernel_rfl) ?_
    have hbd:Below w.heap.size w wr.drew:=HBT.out.drew
    have HO2:=hid (zBI HO.out ((Below.refl _ wr).drew))
    have HB3:=hid hbd
    generalize wr.drew=wd at hbd HO2 HB3⊢
    refine AnyT.tD (i:=0) (v:=.slice va k vc) rfl rfl (by rintro w' ⟨q1,q2,q3,q4⟩;go_simp) (HS.out _ hbd) ?_;go_frame
    refine AnyT.tD (i:=1) (v:=.slice (some ⟨b,off,none⟩) n cap) rfl rfl (by rintro w' ⟨q1,q2,q3,q4⟩;go_simp) (HS.out _ hbd) ?_;go_frame
    refine AnyT.tD (i:=2) (v:=.int .i64 k) rfl rfl (by rintro w' ⟨q1,q2,q3,q4⟩;go_simp) (HS.out _ hbd) ?_;go_frame
    refine AnyT.tD (i:=3) (v:=.pointer (some ⟨b,off+k,none⟩)) rfl rfl (by rintro w' ⟨q1,q2,q3,q4⟩;go_simp) (HS.out _ hbd) ?_;go_frame
    refine AnyT.tD (i:=4) (v:=.int .i64 x) rfl rfl (by rintro w' ⟨q1,q2,q3,q4⟩;go_simp) (HS.out _ hbd) ?_;go_frame
    refine AnyT.tD (i:=5) (v:=.slice (some ⟨b2,off2,none⟩) n cap2) rfl rfl (by rintro w' ⟨q1,q2,q3,q4⟩;go_simp) (HS.out _ hbd) ?_;go_frame
    refine AnyT.tD (i:=6) (v:=.int .i64 j) rfl rfl (by rintro w' ⟨q1,q2,q3,q4⟩;go_simp) (HS.out _ hbd) ?_;go_frame
    refine AnyT.tD (i:=7) (v:=.pointer (some ⟨b2,off2+j,none⟩)) rfl rfl (by rintro w' ⟨q1,q2,q3,q4⟩;go_simp) (HS.out _ hbd) ?_;go_frame
    refine AnyT.tD (i:=8) (v:=.int .i64 pj) rfl rfl (by rintro w' ⟨q1,q2,q3,q4⟩;go_simp) (HS.out _ hbd) ?_;go_frame
    refine AnyT.tD (i:=9) (v:=.int .i64 m1) rfl rfl (by rintro w' ⟨q1,q2,q3,q4⟩;go_simp) (HS.out _ hbd) ?_;go_frame
    refine AnyT.tD (i:=10) (v:=.slice (some ⟨b2,off2,none⟩) n cap2) rfl rfl (by rintro w' ⟨q1,q2,q3,q4⟩;go_simp) (HS.out _ hbd) ?_;go_frame
    refine AnyT.tD (i:=11) (v:=.int .i64 k) rfl rfl (by rintro w' ⟨q1,q2,q3,q4⟩;go_simp) (HS.out _ hbd) ?_;go_frame
    refine AnyT.tD (i:=12) (v:=.pointer (some ⟨b2,off2+k,none⟩)) rfl rfl (by rintro w' ⟨q1,q2,q3,q4⟩;go_simp) (HS.out _ hbd) ?_;go_frame
    refine AnyT.tD (i:=13) (v:=.int .i64 y) rfl rfl (by rintro w' ⟨q1,q2,q3,q4⟩;go_simp) (HS.out _ hbd) ?_;go_frame
    refine AnyT.tD (i:=14) (v:=.slice (some ⟨b,off,none⟩) n cap) rfl rfl (by rintro w' ⟨q1,q2,q3,q4⟩;go_simp) (HS.out _ hbd) ?_;go_frame
    refine AnyT.tD (i:=15) (v:=.int .i64 j) rfl rfl (by rintro w' ⟨q1,q2,q3,q4⟩;go_simp) (HS.out _ hbd) ?_;go_frame
    refine AnyT.tD (i:=16) (v:=.pointer (some ⟨b,off+j,none⟩)) rfl rfl (by rintro w' ⟨q1,q2,q3,q4⟩;go_simp) (HS.out _ hbd) ?_;go_frame
    refine AnyT.tD (i:=17) (v:=.int .i64 rj) rfl rfl (by rintro w' ⟨q1,q2,q3,q4⟩;go_simp) (HS.out _ hbd) ?_;go_frame
    refine AnyT.tD (i:=18) (v:=.int .i64 m2) rfl rfl (by rintro w' ⟨q1,q2,q3,q4⟩;go_simp) (HS.out _ hbd) ?_;go_frame
    refine AnyT.tD (i:=19) (v:=.int .i64 z) rfl rfl (by rintro w' ⟨q1,q2,q3,q4⟩;go_simp) (HS.out _ hbd) ?_;go_frame
    refine AnyT.nx (i:=20) rfl ?_
    go_wp2
    have hbA:=hbd.alloc hbd.size (.cells #[.int .i64 z] 3)
    refine⟨fun _=>HS.out _ hbA,?_⟩
    refine AnyT.nx (i:=21) rfl ?_
    (refine zAL _ rfl (.tmp 14) (.tmp 34) 24 rfl w.heap.size 3 (.int .i64 0) 1 8 Tryz.underlying24 zDX rfl Nat.one_pos (.slice va k vc) k _ rfl (HO2.out.alloc _) (some ⟨wd.heap.size,0,none⟩) 1 1 [.int .i64 z] rfl rfl zBS (zBK wd _ _) (zEB _) M1.out M2.out (Nat.le_trans HB3.out.size (zBT _ _)) ?_)
    intro a3 c3 w3 own3 g3
    have hb3:=hbA.grown g3 hbA.size (fun q hq=>(HO2.out.lt q hq).1)
    refine⟨fun _=>HS.out _ hb3,?_⟩
    refine AnyT.tD (i:=22) (v:=.slice a3 (k+1) c3) rfl rfl (by rintro w' ⟨q1,q2,q3,q4⟩;go_simp) (HS.out _ hb3) ?_;go_frame
    exact⟨by kernel_rfl,rfl,.slice va k vc,.slice (some ⟨b,off,none⟩) n cap,.int .i64 k,.pointer (some ⟨b,off+k,none⟩),.int .i64 x,.slice (some ⟨b2,off2,none⟩) n cap2,.int .i64 j,.pointer (some ⟨b2,off2+j,none⟩),.int .i64 pj,.int .i64 m1,.slice (some ⟨b2,off2,none⟩) n cap2,.int .i64 k,.pointer (some ⟨b2,off2+k,none⟩),.int .i64 y,.slice (some ⟨b,off,none⟩) n cap,.int .i64 j,.pointer (some ⟨b,off+j,none⟩),.int .i64 rj,.int .i64 m2,.int .i64 z,.slice (some ⟨wd.heap.size,0,none⟩) 1 1,.slice a3 (k+1) c3,(by first|rfl|go_frame),⟨a3,c3,rfl⟩,by rw[HSN.out];exact own3,hb3⟩
   ·rintro a5 w5 ⟨v14,v15,v16,v17,v18,v19,v20,v21,v22,v23,v24,v25,v26,v27,v28,v29,v30,v31,v32,v33,v34,v35,rfl,⟨a3,c3,rfl⟩,ho5,hb5⟩
    go_frame
    go_wp2
    exact⟨⟨k+1,by omega,by go_num,ho5,hb5⟩,by simp[intOf];omega⟩
  ·obtain rfl:k=n:=by omega
   have hmb:BndL 4611686018427387904 (zIP p j r k):=by
    intro x hx
    unfold zIP at hx
    obtain⟨c,hc,rfl⟩:=List.mem_map.1 hx
    have hck:=List.mem_range.1 hc
    have d1:=HB.out.get (show c<r.length by rw[HN.out];exact hck)
    have d2:=HB.out.get (show j<r.length by rw[HN.out];exact hj)
    have d3:=HB2.out.get (show c<p.length by rw[HN2.out];exact hck)
    have d4:=HB2.out.get (show j<p.length by rw[HN2.out];exact hj)
    have e1:=zGR (show-(1073741824:Int)<=r[c]?.getD 0∧r[c]?.getD 0<=1073741824 by omega) (show-(1073741824:Int)<=p[j]?.getD 0∧p[j]?.getD 0<=1073741824 by omega)
    have e2:=zGR (show-(1073741824:Int)<=p[c]?.getD 0∧p[c]?.getD 0<=1073741824 by omega) (show-(1073741824:Int)<=r[j]?.getD 0∧r[j]?.getD 0<=1073741824 by omega)
    show-((4611686018427387904:Nat):Int)<=r[c]?.getD 0*p[j]?.getD 0-p[c]?.getD 0*r[j]?.getD 0∧r[c]?.getD 0*p[j]?.getD 0-p[c]?.getD 0*r[j]?.getD 0<=((4611686018427387904:Nat):Int)
    omega
   obtain⟨va,vc,rfl,hi,_⟩:=zCN hown (mixTo_len p j r k)
   have HP:=hid (zIG wr va k vc (zIP p j r k) (mixTo_len p j r k) hm hi hmb)
   have HBT:=hid hbt
   clear hown hi hmb hbt
   go_wp2_with (go_at_call 226;refine HP.out.mono ?_;rintro e w4 ⟨v4,rfl,ho4,hb4⟩;refine Stop.of ?_)
   refine Stop.go ?_
   have HO4:=hid ho4
   have hb:=zAA HBT.out hb4
   clear ho4 hb4
   go_wp2
   go_ret
   exact⟨v4,wr.heap.size,rfl,HBT.out.size,HO4.out,hb⟩
end
section
open Go.RowKit
def HeadV(W:World)(xs:List Value)(L:List (List Int)):Prop:=
 xs.length=L.length∧∀j (hj:j<L.length),∃ra rn rc,xs[j]? =some (.slice ra rn rc)∧L[j].length=rn∧rn<=maxLen∧zAI W ra L[j]
theorem rows_of_own{W:World}{base n c:Nat}{T:TypeId}{a:Option Addr}{xs:List Value}{L:List (List Int)}(h:W.ownsRow base T 1 (.slice a n c) n xs)(hv:HeadV W xs L)(hl:L.length=n):zAM W a L:=by
 intro j hj
 rcases h.2 with⟨_,h0⟩|⟨g,cap,cur,e,hg,hh,rest⟩
 ·omega
 ·cases e
  have hlt:=(Array.getElem?_eq_some_iff.1 hh).1
  have hc:W.cell? ⟨g,j,none⟩=xs[j]? :=World.ownsRow.cellAt (w:=W) (base:=base) (e:=T) (size:=1) (g:=g) (n:=n) (cap:=c) (xs:=xs) h j (by omega)
  obtain⟨ra,rn,rc,h1,h2,h3,h4⟩:=hv.2 j hj
  exact⟨g,0,ra,rn,rc,rfl,hlt,by rw[Nat.zero_add,hc];exact h1,h2,h3,h4⟩
end
section
section
open Go.RowKit
def RowS(W:World)(v:Value)(l:List Int):Prop:=
 (∃g c,v=.slice (some ⟨g,0,none⟩) l.length c∧zBR W g l)∨(l=[]∧∃a c,v=.slice a 0 c)
theorem RowS.sl{W:World}{v:Value}{l:List Int}(h:RowS W v l)(hm:l.length<=maxLen):SlV W v l:=by
 rcases h with⟨g,c,rfl,hs⟩|⟨rfl,a,c,rfl⟩
 ·exact⟨_,_,_,rfl,rfl,hm,hs.ints⟩
 ·exact⟨_,_,_,rfl,rfl,Nat.zero_le _,fun j hj=>by simp at hj⟩
theorem RowS.below{W W':World}{v:Value}{l:List Int}(h:RowS W v l)(hb:Below W.heap.size W W'):RowS W' v l:=by
 rcases h with⟨g,c,rfl,hs⟩|h
 ·exact .inl ⟨g,c,rfl,hs.keep (hb.block g hs.lt)⟩
 ·exact .inr h
def TabS(W:World)(base:Nat)(v:Value)(L:List (List Int)):Prop:=
 ∃vs,W.ownsRow base 24 1 v L.length vs∧∀j (hj:j<L.length),∃u,vs[j]? =some u∧RowS W u L[j]
theorem TabS.nil(W:World)(base:Nat):TabS W base (.slice none 0 0) []:=⟨[],World.ownsRow_nil _ _ _ _,fun j hj=>by simp at hj⟩
theorem TabS.below{W W':World}{base:Nat}{v:Value}{L:List (List Int)}(h:TabS W base v L)(hb:Below W.heap.size W W'):TabS W' base v L:=by
 obtain⟨vs,h1,h2⟩:=h
 refine⟨vs,zBI h1 hb,fun j hj=>?_⟩
 obtain⟨u,hu,hr⟩:=h2 j hj
 exact⟨u,hu,hr.below hb⟩
theorem TabS.rows{W:World}{base n c:Nat}{a:Option Addr}{L:List (List Int)}(h:TabS W base (.slice a n c) L)(hl:L.length=n)(hm:∀r∈L,r.length<=maxLen):zAM W a L:=by
 obtain⟨vs,h1,h2⟩:=h
 rw[hl]at h1
 refine rows_of_own (xs:=vs) h1 ⟨by have:=h1.1;omega,fun j hj=>?_⟩ hl
 obtain⟨u,hu,hr⟩:=h2 j hj
 obtain⟨ra,rn,rc,rfl,e1,e2,e3⟩:=hr.sl (hm _ (List.getElem_mem hj))
 exact⟨ra,rn,rc,hu,e1,e2,e3⟩
theorem TabS.snoc{W w1 w3:World}{base:Nat}{v v' u:Value}{L:List (List Int)}{r:List Int}{vs:List Value}(h1:W.ownsRow base 24 1 v L.length vs)
 (h2:∀j (hj:j<L.length),∃u,vs[j]? =some u∧RowS W u L[j])(hb:Below W.heap.size W w1)(hr:RowS w1 u r)(hg:w1.grownBy w3 v.ownBlock)
 (ho':w3.ownsRow base 24 1 v' (L.length+1) (vs++[u])):TabS w3 base v' (L++[r]):=by
 have hlen:vs.length=L.length:=by have:=h1.1;omega
 have hown:∀b,v.ownBlock=some b->∃c f,w1.heap[b]? =some (.cells c 24 f):=by
  intro b hb'
  rcases h1.2 with⟨rfl,_⟩|⟨g,cap,cur,rfl,hbg,hgg,_⟩
  ·simp[Value.ownBlock]at hb'
  ·obtain rfl:g=b:=by simpa[Value.ownBlock]using hb'
   exact⟨cur,_,(hb.block g (Array.getElem?_eq_some_iff.1 hgg).1).trans hgg⟩
 have hold:∀b l,zBR w1 b l->zBR w3 b l:=by
  intro b l hs
  refine hs.keep (hg.block b hs.lt ?_)
  intro e
  obtain⟨c,f,hc⟩:=hown b e.symm
  obtain⟨sp,hs⟩:=hs
  rw[hs]at hc
  simp at hc
 have hup:∀u l,RowS w1 u l->RowS w3 u l:=by
  rintro u l (⟨g,c,rfl,hs⟩|h)
  ·exact .inl ⟨g,c,rfl,hold _ _ hs⟩
  ·exact .inr h
 refine⟨vs++[u],by simpa using ho',fun j hj=>?_⟩
 simp only[List.length_append,List.length_cons,List.length_nil,Nat.zero_add]at hj
 by_cases hjl:j<L.length
 ·obtain⟨u',hu',hr'⟩:=h2 j hjl
  rw[List.getElem_append_left hjl]
  exact⟨u',by rw[List.getElem?_append_left (by omega)];exact hu',hup _ _ (hr'.below hb)⟩
 ·obtain rfl:j=L.length:=by omega
  rw[List.getElem_append_right (Nat.le_refl _)]
  simp only[Nat.sub_self,List.getElem_cons_zero]
  exact⟨u,by rw[List.getElem?_append_right (by omega),hlen];simp,hup _ _ hr⟩
theorem TabS.at{W:World}{base n:Nat}{v:Value}{L:List (List Int)}(h:TabS W base v L)(hl:L.length=n){i:Nat}(hi:i<n):
 ∃g0 cap u,v=.slice (some ⟨g0,0,none⟩) n cap∧base<=g0∧g0<W.heap.size∧W.cell? ⟨g0,i,none⟩=some u∧RowS W u (L[i]?.getD [])∧W.frozen? ⟨g0,i,none⟩=false∧
  ∀u' r,RowS W u' r->TabS (W.setCell ⟨g0,i,none⟩ u') base v (L.set i r)∧∀k,k≠g0->(W.setCell ⟨g0,i,none⟩ u').heap[k]? =W.heap[k]? :=by
 subst hl
 obtain⟨vs,h1,h2⟩:=h
 obtain⟨u,hu,hr⟩:=h2 i hi
 rcases h1.2 with⟨rfl,h0⟩|⟨g0,cap,cur,rfl,hbg,hgg,hnc,hcm,hsz,htk⟩
 ·omega
 have hcell:=World.ownsRow.cellAt (w:=W) (base:=base) (e:=24) (size:=1) (g:=g0) (n:=L.length) (cap:=cap) (xs:=vs) h1 i (by omega)
 have hvl:vs.length=L.length:=by have:=h1.1;omega
 refine⟨g0,cap,u,rfl,hbg,(Array.getElem?_eq_some_iff.1 hgg).1,by rw[hcell];exact hu,by rw[List.getElem?_eq_getElem hi];exact hr,by simp[World.frozen?,hgg],?_⟩
 intro u' r hr'
 have hkeep:∀k,k≠g0->(W.setCell ⟨g0,i,none⟩ u').heap[k]? =W.heap[k]? :=fun k hk=>Below.heap_setCell _ _ _ _ hk
 have hup:∀u l,RowS W u l->RowS (W.setCell ⟨g0,i,none⟩ u') u l:=by
  rintro u l (⟨g,c,rfl,hs⟩|h)
  ·refine .inl ⟨g,c,rfl,hs.keep (hkeep g ?_)⟩
   rintro rfl
   obtain⟨sp,hs⟩:=hs
   rw[hgg]at hs
   cases hs
  ·exact .inr h
 have hb2:(W.setCell ⟨g0,i,none⟩ u').heap[g0]? =some (.cells (cur.setIfInBounds i u') 24 (0,0)):=zAS hgg i u'
 refine⟨⟨vs.set i u',⟨by simpa using h1.1,.inr ⟨g0,cap,cur.setIfInBounds i u',by simp,hbg,hb2,by simpa using hnc,hcm,by simpa using hsz,?_⟩⟩,fun j hj=>?_⟩,hkeep⟩
 ·rw[<- htk]
  simp only[Array.toList_setIfInBounds,List.length_set,Nat.mul_one]
  rw[List.take_set]
 ·have hj':j<L.length:=by simpa using hj
  by_cases e:i=j
  ·subst e
   exact⟨u',by simp[hvl,hj'],by simpa using hup _ _ hr'⟩
  ·obtain⟨u2,hu2,hr2⟩:=h2 j hj'
   exact⟨u2,by rw[List.getElem?_set_ne e];exact hu2,by rw[List.getElem_set_ne e];exact hup _ _ hr2⟩
end
section
open Go.RowKit
theorem zOH{W:World}{b0:Nat}{v:Value}{l:List Int}{n:Nat}(h:W.ownsRow b0 3 1 v n (l.map (Value.int .i64)))(hn:l.length=n):RowS W v l:=by
 rcases Nat.eq_zero_or_pos n with h0|h0
 ·obtain⟨a,c,rfl⟩:=zAC h
  subst h0
  exact .inr ⟨List.length_eq_zero_iff.1 hn,a,c,rfl⟩
 ·obtain⟨g,cap,rfl,_,hs⟩:=zIC h hn h0
  exact .inl ⟨g,cap,by rw[hn],hs⟩
theorem RowS.slice{W:World}{v:Value}{l:List Int}(h:RowS W v l):∃a c,v=.slice a l.length c:=by
 rcases h with⟨g,c,rfl,_⟩|⟨rfl,a,c,rfl⟩
 ·exact⟨_,_,rfl⟩
 ·exact⟨_,_,rfl⟩
theorem colsF_take{M:List (List Int)}{S:List Int}{k:Nat}(hk:k<M.length):(zAR M S).take (k+1)=(zAR M S).take k++[S.map (fun j=>vec M[k] j.toNat)]:=by
 have hc:k<(zAR M S).length:=by rw[zBJ];exact hk
 rw[List.take_succ_eq_append_getElem hc]
 congr 2
 simp[zAR]
end
section
open Go.RowKit
def RowN(N:Option Nat)(W:World)(v:Value)(l:List Int):Prop:=
 (∃g c,v=.slice (some ⟨g,0,none⟩) l.length c∧zBR W g l∧N≠some g)∨(l=[]∧∃a c,v=.slice a 0 c)
theorem RowN.row{N:Option Nat}{W:World}{v:Value}{l:List Int}(h:RowN N W v l):RowS W v l:=by
 rcases h with⟨g,c,e,hs,_⟩|h
 ·exact .inl ⟨g,c,e,hs⟩
 ·exact .inr h
theorem zKU{N:Option Nat}{W:World}{b0:Nat}{v:Value}{l:List Int}{n:Nat}(h:W.ownsRow b0 3 1 v n (l.map (Value.int .i64)))(hn:l.length=n)(hN:∀k,N=some k->k<b0):RowN N W v l:=by
 rcases Nat.eq_zero_or_pos n with h0|h0
 ·obtain⟨a,c,rfl⟩:=zAC h
  subst h0
  exact .inr ⟨List.length_eq_zero_iff.1 hn,a,c,rfl⟩
 ·obtain⟨g,cap,rfl,hg,hs⟩:=zIC h hn h0
  exact .inl ⟨g,cap,by rw[hn],hs,fun e=>by have:=hN g e;omega⟩
def zMV(N:Option Nat)(W W':World):Prop:=∀k c,W.heap[k]? =some (.cells c 3 (0,0))->N≠some k->W'.heap[k]? =W.heap[k]?
theorem RowN.keep{N:Option Nat}{W W':World}{v:Value}{l:List Int}(h:RowN N W v l)(hk:zMV N W W'):RowN N W' v l:=by
 rcases h with⟨g,c,e,hs,hne⟩|h
 ·refine .inl ⟨g,c,e,?_,hne⟩
  obtain⟨sp,hs'⟩:=id hs
  exact hs.keep (hk g _ hs' hne)
 ·exact .inr h
theorem zMV.below{N:Option Nat}{W W':World}(hb:Below W.heap.size W W'):zMV N W W':=fun k c h _=>hb.block k (Array.getElem?_eq_some_iff.1 h).1
def TabN(N:Option Nat)(W:World)(base:Nat)(v:Value)(L:List (List Int)):Prop:=
 ∃vs,W.ownsRow base 24 1 v L.length vs∧∀j (hj:j<L.length),∃u,vs[j]? =some u∧RowN N W u L[j]
theorem TabN.tab{N:Option Nat}{W:World}{base:Nat}{v:Value}{L:List (List Int)}(h:TabN N W base v L):TabS W base v L:=by
 obtain⟨vs,h1,h2⟩:=h
 refine⟨vs,h1,fun j hj=>?_⟩
 obtain⟨u,hu,hr⟩:=h2 j hj
 exact⟨u,hu,hr.row⟩
theorem TabN.nil(N:Option Nat)(W:World)(base:Nat):TabN N W base (.slice none 0 0) []:=⟨[],World.ownsRow_nil _ _ _ _,fun j hj=>by simp at hj⟩
theorem zIM{W W':World}{base size n:Nat}{T:TypeId}{v:Value}{xs:List Value}(h:W.ownsRow base T size v n xs)(hk:∀k,v.ownBlock=some k->k<W.heap.size->W'.heap[k]? =W.heap[k]?):W'.ownsRow base T size v n xs:=by
 refine⟨h.1,?_⟩
 rcases h.2 with hn|⟨g,cap,cur,rfl,hbg,hgg,rest⟩
 ·exact .inl hn
 ·exact .inr ⟨g,cap,cur,rfl,hbg,(hk g rfl (Array.getElem?_eq_some_iff.1 hgg).1).trans hgg,rest⟩
theorem own_low{W:World}{base b0 size n:Nat}{T:TypeId}{v:Value}{xs:List Value}(h:W.ownsRow base T size v n xs)(hb:b0<=base):W.ownsRow b0 T size v n xs:=by
 refine⟨h.1,?_⟩
 rcases h.2 with hn|⟨g,cap,cur,rfl,hbg,rest⟩
 ·exact .inl hn
 ·exact .inr ⟨g,cap,cur,rfl,Nat.le_trans hb hbg,rest⟩
theorem zCA{W:World}{base size n k:Nat}{T:TypeId}{v:Value}{xs:List Value}(h:W.ownsRow base T size v n xs)(hk:v.ownBlock=some k):base<=k∧∃c,W.heap[k]? =some (.cells c T (0,0)):=by
 rcases h.2 with⟨rfl,_⟩|⟨g,cap,cur,rfl,hbg,hgg,_⟩
 ·simp[Value.ownBlock]at hk
 ·obtain rfl:g=k:=by simpa[Value.ownBlock]using hk
  exact⟨hbg,cur,hgg⟩
theorem TabN.type{N:Option Nat}{W:World}{base k:Nat}{v:Value}{L:List (List Int)}(h:TabN N W base v L)(hk:v.ownBlock=some k):base<=k∧k<W.heap.size∧∃c,W.heap[k]? =some (.cells c 24 (0,0)):=by
 obtain⟨vs,h1,_⟩:=h
 obtain⟨h2,c,h3⟩:=zCA h1 hk
 exact⟨h2,(Array.getElem?_eq_some_iff.1 h3).1,c,h3⟩
theorem TabN.low{N:Option Nat}{W:World}{base b0:Nat}{v:Value}{L:List (List Int)}(h:TabN N W base v L)(hb:b0<=base):TabN N W b0 v L:=by
 obtain⟨vs,h1,h2⟩:=h
 exact⟨vs,own_low h1 hb,h2⟩
theorem TabN.keep{N:Option Nat}{W W':World}{base:Nat}{v:Value}{L:List (List Int)}(h:TabN N W base v L)(hk:zMV N W W')(ho:∀k,v.ownBlock=some k->k<W.heap.size->W'.heap[k]? =W.heap[k]?):TabN N W' base v L:=by
 obtain⟨vs,h1,h2⟩:=h
 refine⟨vs,zIM h1 ho,fun j hj=>?_⟩
 obtain⟨u,hu,hr⟩:=h2 j hj
 exact⟨u,hu,hr.keep hk⟩
theorem TabN.below{N:Option Nat}{W W':World}{base:Nat}{v:Value}{L:List (List Int)}(h:TabN N W base v L)(hb:Below W.heap.size W W'):TabN N W' base v L:=
 h.keep (zMV.below hb) fun k _ hk=>hb.block k hk
theorem TabN.piv{W W':World}{base b2 n:Nat}{v p p':Value}{xs:List Value}{L:List (List Int)}(h:TabN p.ownBlock W base v L)(hg:W.grownBy W' p.ownBlock)(hat:p'.ownBlock=p.ownBlock∨p'.ownBlock=some W.heap.size)
 (hP:W.ownsRow b2 3 1 p n xs):TabN p'.ownBlock W' base v L:=by
 have h1:TabN p.ownBlock W' base v L:=by
  refine h.keep (fun k c hk hne=>hg.block k (Array.getElem?_eq_some_iff.1 hk).1 (fun e=>hne e.symm)) fun k hk hlt=>hg.block k hlt fun e=>?_
  obtain⟨_,_,c,hc⟩:=h.type hk
  obtain⟨_,c2,hc2⟩:=zCA hP e.symm
  rw[hc]at hc2
  cases hc2
 have hlt:∀u l,RowN p.ownBlock W u l->RowN p'.ownBlock W' u l:=by
  intro u l hr
  rcases hr with⟨g,c,e,hs,hne⟩|hr
  ·refine .inl ⟨g,c,e,?_,?_⟩
   ·obtain⟨sp,hs'⟩:=id hs
    exact hs.keep (hg.block g hs.lt (fun e=>hne e.symm))
   ·rcases hat with hat|hat
    ·rw[hat];exact hne
    ·rw[hat];intro e
     have h1:W.heap.size=g:=by simpa using e
     have:=hs.lt
     omega
  ·exact .inr hr
 obtain⟨vs,h2,h3⟩:=h
 obtain⟨vs',h4,_⟩:=h1
 refine⟨vs,zIM h2 fun k hk hlt'=>hg.block k hlt' fun e=>?_,fun j hj=>?_⟩
 ·obtain⟨_,c,hc⟩:=zCA h2 hk
  obtain⟨_,c2,hc2⟩:=zCA hP e.symm
  rw[hc]at hc2
  cases hc2
 ·obtain⟨u,hu,hr⟩:=h3 j hj
  exact⟨u,hu,hlt _ _ hr⟩
theorem TabN.beside{N:Option Nat}{W W':World}{base:Nat}{v:Value}{L:List (List Int)}(h:TabN N W base v L){g0:Option Nat}(hk:∀k,k<W.heap.size->g0≠some k->W'.heap[k]? =W.heap[k]?)
 (hg:∀k,g0=some k->∃c,W.heap[k]? =some (.cells c 24 (0,0)))(hne:∀k,g0=some k->v.ownBlock≠some k):TabN N W' base v L:=by
 refine h.keep (fun k c hc hn=>hk k (Array.getElem?_eq_some_iff.1 hc).1 fun e=>?_) fun k hv hlt=>hk k hlt fun e=>hne k e hv
 obtain⟨c2,h2⟩:=hg k e
 rw[h2]at hc
 cases hc
theorem TabN.snoc{N:Option Nat}{w1 w3:World}{base:Nat}{v v' u:Value}{L:List (List Int)}{r:List Int}{vs:List Value}(h1:w1.ownsRow base 24 1 v L.length vs)
 (h2:∀j (hj:j<L.length),∃u,vs[j]? =some u∧RowN N w1 u L[j])(hr:RowN N w1 u r)(hg:w1.grownBy w3 v.ownBlock)
 (ho':w3.ownsRow base 24 1 v' (L.length+1) (vs++[u])):TabN N w3 base v' (L++[r]):=by
 have hlen:vs.length=L.length:=by have:=h1.1;omega
 have hK:zMV N w1 w3:=fun k c hc hn=>hg.block k (Array.getElem?_eq_some_iff.1 hc).1 fun e=>by
  obtain⟨_,c2,h2⟩:=zCA h1 e.symm
  rw[h2]at hc
  cases hc
 refine⟨vs++[u],by simpa using ho',fun j hj=>?_⟩
 simp only[List.length_append,List.length_cons,List.length_nil,Nat.zero_add]at hj
 by_cases hjl:j<L.length
 ·obtain⟨u',hu',hr'⟩:=h2 j hjl
  rw[List.getElem_append_left hjl]
  exact⟨u',by rw[List.getElem?_append_left (by omega)];exact hu',hr'.keep hK⟩
 ·obtain rfl:j=L.length:=by omega
  rw[List.getElem_append_right (Nat.le_refl _)]
  simp only[Nat.sub_self,List.getElem_cons_zero]
  exact⟨u,by rw[List.getElem?_append_right (by omega),hlen];simp,hr.keep hK⟩
theorem TabN.at{N:Option Nat}{W:World}{base n:Nat}{v:Value}{L:List (List Int)}(h:TabN N W base v L)(hl:L.length=n){i:Nat}(hi:i<n):
 ∃g0 cap u,v=.slice (some ⟨g0,0,none⟩) n cap∧base<=g0∧g0<W.heap.size∧(∃c,W.heap[g0]? =some (.cells c 24 (0,0)))∧W.cell? ⟨g0,i,none⟩=some u∧RowN N W u (L[i]?.getD [])∧W.frozen? ⟨g0,i,none⟩=false∧
  ∀u' r,RowN N W u' r->TabN N (W.setCell ⟨g0,i,none⟩ u') base v (L.set i r)∧∀k,k≠g0->(W.setCell ⟨g0,i,none⟩ u').heap[k]? =W.heap[k]? :=by
 subst hl
 obtain⟨vs,h1,h2⟩:=h
 obtain⟨u,hu,hr⟩:=h2 i hi
 rcases h1.2 with⟨rfl,h0⟩|⟨g0,cap,cur,rfl,hbg,hgg,hnc,hcm,hsz,htk⟩
 ·omega
 have hcell:=World.ownsRow.cellAt (w:=W) (base:=base) (e:=24) (size:=1) (g:=g0) (n:=L.length) (cap:=cap) (xs:=vs) h1 i (by omega)
 have hvl:vs.length=L.length:=by have:=h1.1;omega
 refine⟨g0,cap,u,rfl,hbg,(Array.getElem?_eq_some_iff.1 hgg).1,⟨cur,hgg⟩,by rw[hcell];exact hu,by rw[List.getElem?_eq_getElem hi];exact hr,by simp[World.frozen?,hgg],?_⟩
 intro u' r hr'
 have hkeep:∀k,k≠g0->(W.setCell ⟨g0,i,none⟩ u').heap[k]? =W.heap[k]? :=fun k hk=>Below.heap_setCell _ _ _ _ hk
 have hK:zMV N W (W.setCell ⟨g0,i,none⟩ u'):=fun k c hc hn=>hkeep k fun e=>by
  subst e
  rw[hgg]at hc
  cases hc
 have hb2:(W.setCell ⟨g0,i,none⟩ u').heap[g0]? =some (.cells (cur.setIfInBounds i u') 24 (0,0)):=zAS hgg i u'
 refine⟨⟨vs.set i u',⟨by simpa using h1.1,.inr ⟨g0,cap,cur.setIfInBounds i u',by simp,hbg,hb2,by simpa using hnc,hcm,by simpa using hsz,?_⟩⟩,fun j hj=>?_⟩,hkeep⟩
 ·rw[<- htk]
  simp only[Array.toList_setIfInBounds,List.length_set,Nat.mul_one]
  rw[List.take_set]
 ·have hj':j<L.length:=by simpa using hj
  by_cases e:i=j
  ·subst e
   exact⟨u',by simp[hvl,hj'],by simpa using hr'.keep hK⟩
  ·obtain⟨u2,hu2,hr2⟩:=h2 j hj'
   exact⟨u2,by rw[List.getElem?_set_ne e];exact hu2,by rw[List.getElem_set_ne e];exact hr2.keep hK⟩
end
section
open Go.RowKit
def zKP{α:Type}(p:α->Bool)(l:List α):Int:=match zER p l with|none=> -1|some a=>(a:Int)
theorem lastI_snoc{α:Type}(p:α->Bool)(l:List α)(y:α):zKP p (l++[y])=if p y=true then(l.length:Int)else zKP p l:=by
 unfold zKP
 rw[zMD]
 by_cases h:p y=true
 ·rw[if_pos h,if_pos h]
 ·rw[if_neg h,if_neg h]
theorem lastI_take{α:Type}(p:α->Bool){l:List α}{k:Nat}(hk:k<l.length):zKP p (l.take (k+1))=if p l[k]=true then(k:Int)else zKP p (l.take k):=by
 rw[List.take_succ_eq_append_getElem hk,lastI_snoc,List.length_take,Nat.min_eq_left (by omega)]
theorem rStep_nil{s:RS}(h:s.left=[])(j:Nat):zLQ s j=s:=by unfold zLQ;rw[h];rfl
theorem rStep_none{s:RS}{j:Nat}(h:zER (nz j) s.left=none):zLQ s j=s:=by unfold zLQ;rw[h]
theorem rStep_some{s:RS}{j a:Nat}(h:zER (nz j) s.left=some a):zLQ s j=⟨(s.left.eraseIdx a).map (zBA (posF (s.left[a]?.getD []) j) j),s.done.map (zBA (posF (s.left[a]?.getD []) j) j)++[posF (s.left[a]?.getD []) j],s.piv++[j]⟩:=by unfold zLQ;rw[h]
theorem rRed_stop{L:List (List Int)}{j:Nat}(h:(rRed L j).left=[]):∀d,rRed L (j+d)=rRed L j
 |0=>rfl
 |d+1=>by rw[<- Nat.add_assoc,zIF,rRed_stop h d,rStep_nil h]
def zIE(f:List Int->List Int)(l:List (List Int))(a k:Nat):List (List Int):=((l.take k).eraseIdx a).map f
theorem restT_ne{f:List Int->List Int}{l:List (List Int)}{a k:Nat}(hk:k<l.length)(h:k≠a):zIE f l a (k+1)=zIE f l a k++[f l[k]]:=by
 unfold zIE
 rw[List.take_succ_eq_append_getElem hk]
 have hlk:(l.take k).length=k:=by rw[List.length_take];omega
 rcases Nat.lt_or_ge a k with h1|h1
 ·rw[List.eraseIdx_append_of_lt_length (by omega),List.map_append];rfl
 ·rw[List.eraseIdx_append_of_length_le (by omega),hlk,List.eraseIdx_of_length_le (l:=l.take k) (by omega),List.map_append]
  have:a-k=(a-k-1)+1:=by omega
  rw[this];rfl
theorem restT_eq{f:List Int->List Int}{l:List (List Int)}{a:Nat}(hk:a<l.length):zIE f l a (a+1)=zIE f l a a:=by
 unfold zIE
 rw[List.take_succ_eq_append_getElem hk]
 have hlk:(l.take a).length=a:=by rw[List.length_take];omega
 rw[List.eraseIdx_append_of_length_le (by omega),hlk,Nat.sub_self,List.eraseIdx_of_length_le (l:=l.take a) (by omega)]
 simp
theorem restT_len(f:List Int->List Int)(l:List (List Int))(a k:Nat):(zIE f l a k).length<=k:=by
 unfold zIE
 have h1:=List.length_eraseIdx_le (l.take k) a
 rw[List.length_map]
 have h2:=List.length_take_le k l
 omega
theorem restT_zero(f:List Int->List Int)(l:List (List Int))(a:Nat):zIE f l a 0=[]:=by simp[zIE]
theorem restT_all{f:List Int->List Int}{l:List (List Int)}{a k:Nat}(h:l.length=k):zIE f l a k=(l.eraseIdx a).map f:=by
 unfold zIE;rw[List.take_of_length_le (by omega)]
def zKR(f:List Int->List Int)(l:List (List Int))(k:Nat):List (List Int):=(l.take k).map f++l.drop k
theorem doneT_len(f:List Int->List Int)(l:List (List Int))(k:Nat):(zKR f l k).length=l.length:=by
 unfold zKR;simp;omega
theorem doneT_at{f:List Int->List Int}{l:List (List Int)}{k:Nat}(hk:k<l.length):(zKR f l k)[k]?.getD []=l[k]:=by
 unfold zKR
 rw[List.getElem?_append_right (by simp;omega)]
 simp[hk,Nat.min_eq_left (Nat.le_of_lt hk)]
theorem doneT_succ{f:List Int->List Int}{l:List (List Int)}{k:Nat}(hk:k<l.length):zKR f l (k+1)=(zKR f l k).set k (f l[k]):=by
 unfold zKR
 rw[List.set_append_right _ _ (by simp;omega),List.take_succ_eq_append_getElem hk,List.map_append]
 have:k-((l.take k).map f).length=0:=by simp;omega
 have e:l.drop k=l[k]::l.drop (k+1):=List.drop_eq_getElem_cons hk
 rw[this,e,List.set_cons_zero,List.append_assoc]
 rfl
theorem doneT_zero(f:List Int->List Int)(l:List (List Int)):zKR f l 0=l:=by simp[zKR]
theorem doneT_all{f:List Int->List Int}{l:List (List Int)}{k:Nat}(h:l.length=k):zKR f l k=l.map f:=by
 unfold zKR;rw[List.take_of_length_le (by omega),List.drop_eq_nil_of_le (by omega),List.append_nil]
def zKS(l:List Nat):List Int:=l.map (fun j:Nat=>(j:Int))
def RedI(w wr:World)(L:List (List Int))(j:Nat)(l d p:Value):Prop:=
 TabN p.ownBlock wr w.heap.size l (rRed L j).left∧TabN p.ownBlock wr w.heap.size d (rRed L j).done∧wr.ownsRow w.heap.size 3 1 p (rRed L j).piv.length ((zKS (rRed L j).piv).map (Value.int .i64))∧Below w.heap.size w wr
structure RedS (w:World) (R0:Nat) (wr:World) (l d r q p:Value) (left done rest:List (List Int)) (P:List Int) (J:List Nat):Prop where
 hl:TabN p.ownBlock wr w.heap.size l left
 hd:TabN p.ownBlock wr w.heap.size d done
 hr:TabN p.ownBlock wr R0 r rest
 hq:RowN p.ownBlock wr q P
 hp:wr.ownsRow w.heap.size 3 1 p J.length ((zKS J).map (Value.int .i64))
 hb:Below w.heap.size w wr
 hR:R0<=wr.heap.size
 hw:w.heap.size<=R0
 lR:∀k,l.ownBlock=some k->k<R0
 dR:∀k,d.ownBlock=some k->k<R0
 pR:∀k,p.ownBlock=some k->k<R0
theorem RedS.below{w:World}{R0:Nat}{A B:World}{l d r q p:Value}{left done rest:List (List Int)}{P:List Int}{J:List Nat}(h:RedS w R0 A l d r q p left done rest P J)(hb:Below A.heap.size A B):RedS w R0 B l d r q p left done rest P J:=
 ⟨h.hl.below hb,h.hd.below hb,h.hr.below hb,h.hq.keep (zMV.below hb),zBI h.hp hb,zAA h.hb hb,Nat.le_trans h.hR hb.size,h.hw,h.lR,h.dR,h.pR⟩
theorem TabN.lt{N:Option Nat}{W:World}{base:Nat}{v:Value}{L:List (List Int)}(h:TabN N W base v L){k:Nat}(hk:v.ownBlock=some k):k<W.heap.size:=(h.type hk).2.1
theorem RedS.start{w wr:World}{L:List (List Int)}{j:Nat}{l d p q:Value}{P:List Int}(h:RedI w wr L j l d p)(hq:RowN p.ownBlock wr q P):RedS w wr.heap.size wr l d (.slice none 0 0) q p (rRed L j).left (rRed L j).done [] P (rRed L j).piv:=
 ⟨h.1,h.2.1,TabN.nil _ _ _,hq,h.2.2.1,h.2.2.2,Nat.le_refl _,h.2.2.2.size,fun k hk=>h.1.lt hk,fun k hk=>h.2.1.lt hk,fun k hk=>by
   obtain⟨_,c,hc⟩:=zCA h.2.2.1 hk
   exact(Array.getElem?_eq_some_iff.1 hc).1⟩
theorem RedS.push{w:World}{R0:Nat}{A B:World}{l d r q p u r':Value}{left done rest:List (List Int)}{P x:List Int}{J:List Nat}{vs:List Value}(h:RedS w R0 A l d r q p left done rest P J)
 (h1:A.ownsRow R0 24 1 r rest.length vs)(h2:∀j (hj:j<rest.length),∃u,vs[j]? =some u∧RowN p.ownBlock A u rest[j])(hu:RowN p.ownBlock A u x)(hg:A.grownBy B r.ownBlock)
 (ho:B.ownsRow R0 24 1 r' (rest.length+1) (vs++[u])):RedS w R0 B l d r' q p left done (rest++[x]) P J:=by
 have hge:∀k,r.ownBlock=some k->R0<=k:=fun k hk=>(zCA h1 hk).1
 have hgt:∀k,r.ownBlock=some k->∃c,A.heap[k]? =some (.cells c 24 (0,0)):=fun k hk=>(zCA h1 hk).2
 have hk:∀k,k<A.heap.size->r.ownBlock≠some k->B.heap[k]? =A.heap[k]? :=fun k hlt hne=>hg.block k hlt fun e=>hne e.symm
 have hK:zMV p.ownBlock A B:=fun k c hc _=>hk k (Array.getElem?_eq_some_iff.1 hc).1 fun e=>by
  obtain⟨c2,h2⟩:=hgt k e
  rw[h2]at hc;cases hc
 refine⟨h.hl.beside hk hgt fun k e e2=>?_,h.hd.beside hk hgt fun k e e2=>?_,TabN.snoc h1 h2 hu hg ho,h.hq.keep hK,zIM h.hp fun k e hlt=>hk k hlt fun e2=>?_,?_,Nat.le_trans h.hR hg.size,h.hw,h.lR,h.dR,h.pR⟩
 ·have:=h.lR k e2;have:=hge k e;omega
 ·have:=h.dR k e2;have:=hge k e;omega
 ·have:=h.pR k e;have:=hge k e2;omega
 ·exact h.hb.grown hg (Nat.le_trans h.hw h.hR) fun k e=>Nat.le_trans h.hw (hge k e)
theorem RedS.store{w:World}{R0:Nat}{A:World}{l d r q p u:Value}{left done rest:List (List Int)}{P x:List Int}{J:List Nat}{i n:Nat}(h:RedS w R0 A l d r q p left done rest P J)(hn:done.length=n)(hi:i<n)(hu:RowN p.ownBlock A u x):
 ∃g0 cap v,d=.slice (some ⟨g0,0,none⟩) n cap∧A.cell? ⟨g0,i,none⟩=some v∧A.frozen? ⟨g0,i,none⟩=false∧RedS w R0 (A.setCell ⟨g0,i,none⟩ u) (.slice none 0 0) d r q p [] (done.set i x) rest P J:=by
 obtain⟨g0,cap,v,rfl,hb0,hlt,hty,hc,hrow,hf,hset⟩:=h.hd.at hn hi
 refine⟨g0,cap,v,rfl,hc,hf,?_⟩
 obtain⟨hT,hk⟩:=hset u x hu
 have hk':∀k,k<A.heap.size->some g0≠some k->(A.setCell ⟨g0,i,none⟩ u).heap[k]? =A.heap[k]? :=fun k _ hne=>hk k fun e=>hne (by rw[e])
 have hgt:∀k,some g0=some k->∃c,A.heap[k]? =some (.cells c 24 (0,0)):=fun k e=>by cases e;exact hty
 have hlt0:g0<R0:=h.dR g0 rfl
 refine⟨TabN.nil _ _ _,hT,h.hr.beside hk' hgt fun k e e2=>?_,h.hq.keep fun k c hc _=>hk' k (Array.getElem?_eq_some_iff.1 hc).1 fun e=>?_,zIM h.hp fun k e hlt2=>hk' k hlt2 fun e2=>?_,?_,by simpa using h.hR,h.hw,fun k hk=>by simp[Value.ownBlock]at hk,h.dR,h.pR⟩
 ·cases e
  have:=(h.hr.type e2).1
  omega
 ·obtain⟨c2,h2⟩:=hgt k e
  rw[h2]at hc;cases hc
 ·cases e2
  obtain⟨c,hc⟩:=hty
  obtain⟨_,c2,h2⟩:=zCA h.hp e
  rw[h2]at hc;cases hc
 ·exact(Keep.set A g0 i u).below h.hb (Nat.le_trans h.hw h.hR) fun k hk e=>by omega
theorem RedS.onto{w:World}{R0:Nat}{A B:World}{l d r q p d':Value}{left done rest:List (List Int)}{P:List Int}{J:List Nat}{vs:List Value}(h:RedS w R0 A l d r q p left done rest P J)
 (h1:A.ownsRow w.heap.size 24 1 d done.length vs)(h2:∀j (hj:j<done.length),∃u,vs[j]? =some u∧RowN p.ownBlock A u done[j])(hg:A.grownBy B d.ownBlock)
 (ho:B.ownsRow w.heap.size 24 1 d' (done.length+1) (vs++[q])):TabN p.ownBlock B w.heap.size r rest∧TabN p.ownBlock B w.heap.size d' (done++[P])∧B.ownsRow w.heap.size 3 1 p J.length ((zKS J).map (Value.int .i64))∧Below w.heap.size w B:=by
 have hge:∀k,d.ownBlock=some k->w.heap.size<=k:=fun k hk=>(zCA h1 hk).1
 have hgt:∀k,d.ownBlock=some k->∃c,A.heap[k]? =some (.cells c 24 (0,0)):=fun k hk=>(zCA h1 hk).2
 have hk:∀k,k<A.heap.size->d.ownBlock≠some k->B.heap[k]? =A.heap[k]? :=fun k hlt hne=>hg.block k hlt fun e=>hne e.symm
 refine⟨(h.hr.beside hk hgt fun k e e2=>?_).low h.hw,TabN.snoc h1 h2 h.hq hg ho,zIM h.hp fun k e hlt=>hk k hlt fun e2=>?_,h.hb.grown hg (Nat.le_trans h.hw h.hR) hge⟩
 ·have:=h.dR k e;have:=(h.hr.type e2).1;omega
 ·obtain⟨c,hc⟩:=hgt k e2
  obtain⟨_,c2,h2⟩:=zCA h.hp e
  rw[h2]at hc;cases hc
theorem red_end{w A B:World}{r d p p':Value}{left done:List (List Int)}{J:List Nat}{j:Nat}(h1:TabN p.ownBlock A w.heap.size r left)(h2:TabN p.ownBlock A w.heap.size d done)(h3:A.ownsRow w.heap.size 3 1 p J.length ((zKS J).map (Value.int .i64)))
 (h4:Below w.heap.size w A)(hg:A.grownBy B p.ownBlock)(hat:p'.ownBlock=p.ownBlock∨p'.ownBlock=some A.heap.size)(ho:B.ownsRow w.heap.size 3 1 p' (J.length+1) ((zKS J).map (Value.int .i64)++[.int .i64 j])):
 TabN p'.ownBlock B w.heap.size r left∧TabN p'.ownBlock B w.heap.size d done∧B.ownsRow w.heap.size 3 1 p' (J++[j]).length ((zKS (J++[j])).map (Value.int .i64))∧Below w.heap.size w B:=by
 refine⟨h1.piv hg hat h3,h2.piv hg hat h3,?_,h4.grown hg h4.size fun k hk=>(zCA h3 hk).1⟩
 simpa[zKS]using ho
theorem zHX{P:Program}(w:World){ops:Array Oper}{rest:List Oper}{o:Oper}{a:Act}{Q:Exit->Act->World->Prop}(hgd:o.guard=none)(s x:Operand)(t:TypeId)
 (ho:o.op=.call {callee:=.builtin .append,args:=#[s,x],argTypes:=#[t,t]})
 (base:Nat)(e:TypeId)(z:Value)(size bytes:Nat)(ht:P.underlying t=some (.slice e))(hinfo:(P.info? e).map (fun i=>(i.zero,i.size,i.bytes))=some (some z,size,bytes))
 (hzs:z.cells.size=size)(hsz:0<size)
 (v:Value)(n:Nat)(xs:List Value)(hs:a.eval s=v)(hown:w.ownsRow base e size v n xs)
 (ad:Addr)(m c:Nat)(news:List Value)(hx:a.eval x=.slice (some ad) m c)(hl:news.length=m*size)
 (hnews:∀j u,news[j]? =some u->w.cell? (ad.add j)=some u)(h1:∀u∈news,u.oneCell'=true)
 (h63:n+m<=maxLen)(hbytes:(n+m)*bytes<=140737488355328)(hbase:base<=w.heap.size)
 (h:∀a' c' w',w'.ownsRow base e size (.slice a' (n+m) c') (n+m) (xs++news)->w.grownBy w' v.ownBlock->((Value.slice a' (n+m) c').ownBlock=v.ownBlock∨(Value.slice a' (n+m) c').ownBlock=some w.heap.size)->wpList P ops Q rest (a.put o.dst (.slice a' (n+m) c')) w'):wpList P ops Q (o::rest) a w:=by
 obtain⟨i,hi,hz,h2,h3⟩:=info_parts hinfo
 refine wpList_append_own_at w hgd s x t ho base e i z size bytes ht hi hz h2 h3 hzs hsz v n xs hs hown ad m c news hx hl hnews h1 h63 hbytes hbase ?_
 intro v' w' ho' hg _ hat
 obtain⟨a',c',rfl⟩:=zAC ho'
 exact h a' c' w' ho' hg hat
end
end
section
open Go.RowKit
theorem RowN.sp{N:Option Nat}{X:World}{g n c:Nat}{P:List Int}(h:RowN N X (.slice (some ⟨g,0,none⟩) n c) P)(h0:0<P.length):zBR X g P:=by
 rcases h with⟨g',c',e,hs,_⟩|⟨rfl,_⟩
 ·cases e;exact hs
 ·simp at h0
theorem RowN.form{N:Option Nat}{X:World}{v:Value}{P:List Int}(h:RowN N X v P)(h0:0<P.length):∃g c,v=.slice (some ⟨g,0,none⟩) P.length c∧zBR X g P:=by
 rcases h with⟨g',c',e,hs,_⟩|⟨rfl,_⟩
 ·exact⟨_,_,e,hs⟩
 ·simp at h0
theorem posF_bnd{B:Nat}{l:List Int}(h:BndL B l)(j:Nat):BndL B (posF l j):=by
 unfold posF
 split
 ·intro x hx
  obtain⟨y,hy,rfl⟩:=List.mem_map.1 hx
  have:=h y hy
  omega
 ·exact h
theorem RedS.drop{w:World}{R0:Nat}{A:World}{l d r q p:Value}{left done rest:List (List Int)}{P:List Int}{J:List Nat}(h:RedS w R0 A l d r q p left done rest P J):RedS w R0 A (.slice none 0 0) d r q p [] done rest P J:=
 ⟨TabN.nil _ _ _,h.hd,h.hr,h.hq,h.hp,h.hb,h.hR,h.hw,fun k hk=>by simp[Value.ownBlock]at hk,h.dR,h.pR⟩
theorem r3reduced_c(w:World)(a:Option Addr)(n cap:Nat)(L:List (List Int))(W:Nat)(hn:L.length=n)(hn6:n<=1000)(H:zAM w a L)(hw:∀r∈L,r.length=W)(hW:W<=1000)(hB0:∀r∈L,BndL 4611686018427387904 r)
 (hB:∀t,t<=W->∀r∈(rRed L t).done++(rRed L t).left,r.length=W∧BndL 1073741824 r)(hlen:∀t,(rRed L t).done.length+(rRed L t).left.length=n)(hpl:∀t,(rRed L t).piv.length=(rRed L t).done.length):
 Calls Tryz.prog 225 #[.slice a n cap] w fun e w'=>∃vD vP,e=.returned (.tuple #[vD,vP])∧TabS w' w.heap.size vD (rRed L W).done∧w'.ownsRow w.heap.size 3 1 vP (rRed L W).piv.length ((zKS (rRed L W).piv).map (Value.int .i64))∧Below w.heap.size w w':=by
 have HN:=hid hn
 have HH:=hid H
 have HW:=hid hw
 have HB0:=hid hB0
 have HBB:=hid hB
 have HLEN:=hid hlen
 have HPL:=hid hpl
 clear hn H hw hB0 hB hlen hpl
 go_enter Tryz.func225,Tryz.ntmps225
 go_wp2
 go_loopw [4,21] (fun v i wr=>∃k:Nat,k<=n∧i=.int .i64 k∧TabN none wr w.heap.size v ((L.take k).map zDG)∧Below w.heap.size w wr) (fun _ i _=>n-(intOf i).toNat)
 case atStart=>exact⟨0,Nat.zero_le _,rfl,TabN.nil _ _ _,Below.refl _ _⟩
 case round=>
  obtain⟨k,hk,rfl,ho,hbk⟩:=hrel
  obtain⟨wo,hwo⟩:=exq (wr)
  subst hwo
  by_cases hlt:k<n
  ·have hkL:k<L.length:=by rw[HN.out];exact hlt
   obtain⟨b,off,ra,rn,rc,rfl,hbs,hq0,hrn,hrm,hri⟩:=(HH.out.below hbk) k hkL
   have htk:(L.take (k+1)).map zDG=(L.take k).map zDG++[zDG L[k]]:=by rw[List.take_succ_eq_append_getElem hkL,List.map_append];rfl
   obtain rfl:rn=W:=by rw[<- hrn];exact HW.out _ (List.getElem_mem hkL)
   obtain⟨C,hC⟩:=exq ((L.take k).map zDG)
   have hlenC:C.length=k:=by rw[hC,List.length_map,List.length_take,HN.out];omega
   rw[<- hC]at htk ho
   have HPR:=hid (zIG wo ra rn rc L[k] hrn hW hri (HB0.out _ (List.getElem_mem hkL)))
   obtain⟨r,hr⟩:=exq (L[k])
   rw[<- hr]at htk HPR hrn
   have hpl:(zDG r).length=rn:=by unfold zDG;rw[List.length_map];exact hrn
   obtain⟨P,hP⟩:=exq (zDG r)
   rw[<- hP]at HPR htk hpl
   have HTK:=hid htk
   have HLC:=hid hlenC
   have HPLN:=hid hpl
   have HBK:=hid hbk
   have HO:=hid ho
   obtain⟨va,vc,rfl⟩:∃va vc,u4=.slice va k vc:=by
    obtain⟨_,ho1,_⟩:=ho
    obtain⟨a',c',e⟩:=zAC ho1
    exact⟨a',c',by rw[e,hlenC]⟩
   clear hC hr hP htk hlenC hpl ho hri hrn hkL hbk
   go_wp2_with (go_at_call 226;refine HPR.out.mono ?_;rintro e w4 ⟨v4,rfl,ho4,hb4⟩;refine Stop.of ?_)
   refine Stop.go ?_
   obtain⟨la,lc,rfl⟩:=zAC ho4
   have hb4a:Below wo.heap.size wo (w4.alloc (.cells #[.slice la rn lc] 24)):=hb4.alloc hb4.size _
   have hT:=HO.out.below hb4a
   obtain⟨vs,ho1,he1⟩:=hT
   have hRow:RowN none (w4.alloc (.cells #[.slice la rn lc] 24)) (.slice la rn lc) P:=(zKU ho4 HPLN.out (fun _ h=>by cases h)).keep (zMV.below ((Below.refl _ _).alloc (Nat.le_refl _) _))
   have ho1':=ho1
   rw[HLC.out]at ho1'
   have M1:=hid (show k+1<=maxLen by unfold maxLen;omega)
   have M2:=hid (show(k+1)*24<=140737488355328 by omega)
   have M3:=hid (Nat.le_trans HBK.out.size hb4a.size)
   have HO1:=hid ho1
   have HO1':=hid ho1'
   have HE1:=hid he1
   have HRW:=hid hRow
   have HB4:=hid hb4a
   clear ho1 ho1' he1 hRow hb4a ho4 hb4
   go_wp2_with (at_builtin;refine zAL _ rfl (.tmp 25) (.tmp 28) 22 rfl w.heap.size 24 (.slice none 0 0) 1 24 Tryz.underlying22 zHU rfl Nat.one_pos (.slice va k vc) k vs rfl HO1'.out (some ⟨w4.heap.size,0,none⟩) 1 1 [.slice la rn lc] rfl rfl zBS (zBK w4 _ _) (zCI _ _ _) M1.out M2.out M3.out ?_;refine Stop.of ?_)
   refine Stop.go ?_
   intro a5 c5 w5 own5 g5
   have hsn:TabN none w5 w.heap.size (.slice a5 (k+1) c5) (C++[P]):=TabN.snoc HO1.out HE1.out HRW.out g5 (by rw[HLC.out];exact own5)
   have hB5:Below w.heap.size w w5:=(HBK.out.trans (HB4.out.mono HBK.out.size)).grown g5 M3.out (fun q hq=>(HO1'.out.lt q hq).1)
   rw[<- HTK.out]at hsn
   go_wp2
   exact⟨⟨k+1,by omega,by go_num,hsn,hB5⟩,by simp[intOf];omega⟩
  ·obtain rfl:k=n:=by omega
   rw[List.take_of_length_le (by rw[HN.out];exact Nat.le_refl _)]at ho
   have hI:RedI w wo L 0 u4 (.slice none 0 0) (.slice none 0 0):=⟨ho,TabN.nil _ _ _,World.ownsRow_nil _ _ _ _,hbk⟩
   clear ho hbk
   go_wp2
   go_loopw [4,5,8,9] (fun l d p i wr=>∃j:Nat,j<=W∧i=.int .i64 j∧RedI w wr L j l d p) (fun _ _ _ i _=>W-(intOf i).toNat)
   case atStart=>exact⟨0,Nat.zero_le _,rfl,hI⟩
   case round=>
    clear hI
    obtain⟨w0,hw0⟩:=exq (wo)
    subst hw0
    obtain⟨wo,hwo⟩:=exq (wr)
    subst hwo
    obtain⟨j,hj,rfl,hI⟩:=hrel
    have HI:=hid hI
    have hls:=HLEN.out j
    have hpl:=HPL.out j
    have hbb:=HBB.out j hj
    have hsucc:=zIF L j
    have hend:j=W∨(rRed L j).left=[]->rRed L W=rRed L j:=by
     rintro (rfl|h)
     ·rfl
     ·have:=rRed_stop h (W-j)
      rwa [show j+(W-j)=W by omega]at this
    obtain⟨hl,hd,hp,hbw⟩:=hI
    obtain⟨s,hs⟩:=exq (rRed L j)
    rw[<- hs]at hls hpl hbb hsucc hend hl hd hp
    obtain⟨ln,hln⟩:=exq (s.left.length)
    obtain⟨dn,hdn⟩:=exq (s.done.length)
    obtain⟨la,lc,rfl⟩:∃la lc,u4=.slice la ln lc:=by
     obtain⟨_,ho1,_⟩:=hl
     obtain⟨a',c',e⟩:=zAC ho1
     exact⟨a',c',by rw[e,hln]⟩
    obtain⟨da,dc,rfl⟩:∃la lc,u5=.slice la dn lc:=by
     obtain⟨_,ho1,_⟩:=hd
     obtain⟨a',c',e⟩:=zAC ho1
     exact⟨a',c',by rw[e,hdn]⟩
    obtain⟨pa,pc,rfl⟩:∃la lc,u8=.slice la dn lc:=by
     obtain⟨a',c',e⟩:=zAC hp
     exact⟨a',c',by rw[e,hpl,hdn]⟩
    have HS:=hid hs
    have HEND:=hid hend
    have HSUCC:=hid hsucc
    have HBBS:=hid hbb
    have HPLS:=hid hpl
    have HL:=hid hl
    have HD:=hid hd
    have HP:=hid hp
    have HBW:=hid hbw
    have HLN:=hid hln
    have HDN:=hid hdn
    have hln6:ln<=1000:=by omega
    have hdn6:dn<=1000:=by omega
    clear hs hend hsucc hbb hpl hl hd hp hbw hls
    by_cases h0:ln=0
    ·subst h0
     have he:rRed L W=s:=HEND.out (.inr (List.length_eq_zero_iff.1 hln.symm))
     have HE:=hid he
     clear he hln hdn
     go_wp2
     go_ret2
     exact⟨_,_,rfl,by rw[HE.out];exact HD.out.tab,by rw[HE.out];exact HP.out,HBW.out⟩
    ·have hz:(0:Int)<(ln:Int):=by omega
     obtain⟨g0,lcap,u0,e0,hg0,hg0s,_,hc0,hr0,_,_⟩:=HL.out.at hln.symm (i:=0) (by omega)
     cases e0
     have hw0:=(HBBS.out (s.left[0]?.getD []) (by
      rw[List.getElem?_eq_getElem (by omega)];exact List.mem_append_right _ (List.getElem_mem _))).1
     obtain⟨ra0,rc0,hu0⟩:=hr0.row.slice
     rw[hw0]at hu0
     subst hu0
     clear hw0 hr0 hln hdn
     by_cases hjW:j=W
     ·subst hjW
      have he:=HEND.out (.inl rfl)
      have HE:=hid he
      clear he
      go_wp2
      go_ret2
      exact⟨_,_,rfl,by rw[HE.out];exact HD.out.tab,by rw[HE.out];exact HP.out,HBW.out⟩
     ·have hjlt:j<W:=by omega
      have hji:(j:Int)<(W:Int):=by omega
      have hat:∀k,k<ln->∃g c x,wo.cell? ⟨g0,k,none⟩=some (.slice (some ⟨g,0,none⟩) W c)∧zBR wo g (s.left[k]?.getD [])∧wo.cell? ⟨g,j,none⟩=some (.int .i64 x)∧x=vec (s.left[k]?.getD []) j∧(s.left[k]?.getD []).length=W∧
       RowN (Value.slice pa dn pc).ownBlock wo (.slice (some ⟨g,0,none⟩) W c) (s.left[k]?.getD [])∧zKP (nz j) (s.left.take (k+1))=if x=0 then zKP (nz j) (s.left.take k)else(k:Int):=by
       intro k hk
       obtain⟨g1,c1,u,e1,_,_,_,hc,hr,_,_⟩:=HL.out.at HLN.out.symm hk
       cases e1
       have hkl:k<s.left.length:=by rw[<- HLN.out];exact hk
       have hlw:=(HBBS.out (s.left[k]?.getD []) (by rw[List.getElem?_eq_getElem hkl];exact List.mem_append_right _ (List.getElem_mem _))).1
       have hsp:∃g c,u=.slice (some ⟨g,0,none⟩) W c∧zBR wo g (s.left[k]?.getD []):=by
        rcases hr with⟨g,c,e,hs,_⟩|⟨e,_⟩
        ·rw[hlw]at e;exact⟨g,c,e,hs⟩
        ·rw[e]at hlw;simp at hlw;omega
       obtain⟨g,c,rfl,hsp⟩:=hsp
       refine⟨g,c,_,hc,hsp,hsp.cell (by omega),rfl,hlw,hr,?_⟩
       rw[lastI_take _ hkl]
       have:s.left[k]?.getD []=s.left[k]:=by rw[List.getElem?_eq_getElem hkl];rfl
       rw[this]
       unfold nz
       by_cases hx:vec s.left[k] j=0
       ·rw[if_neg (by simpa using hx)]
        exact(if_pos hx).symm
       ·rw[if_pos (by simpa using hx)]
        exact(if_neg hx).symm
      have HAT:=hid hat
      clear hat
      go_wp2
      go_loopw [10,46] (fun z i wr=>∃k:Nat,k<=ln∧i=.int .i64 k∧z=.int .i64 (zKP (nz j) (s.left.take k))∧wr=wo) (fun _ i _=>ln-(intOf i).toNat)
      case atStart=>exact⟨0,Nat.zero_le _,rfl,rfl,rfl⟩
      case round=>
       obtain⟨k,hk,rfl,rfl,rfl⟩:=hrel
       by_cases hkl:k<ln
       ·obtain⟨g,c,x,hc1,_,hc2,_,_,_,hla⟩:=HAT.out k hkl
        have HLA:=hid hla
        clear hla
        have hki:(k:Int)<(ln:Int):=by omega
        by_cases hx:x=0
        ·subst hx
         go_wp2
         exact⟨⟨k+1,by omega,by go_num,by rw[HLA.out];rfl,by first|trivial|rfl⟩,by simp[intOf];omega⟩
        ·go_wp2
         exact⟨⟨k+1,by omega,by go_num,by rw[HLA.out,if_neg hx],by first|trivial|rfl⟩,by simp[intOf];omega⟩
       ·obtain rfl:ln=k:=by omega
        have htake:s.left.take ln=s.left:=List.take_of_length_le (by rw[<- HLN.out];exact Nat.le_refl _)
        rw[htake]
        clear htake hkl
        cases hla:zER (nz j) s.left with
        |none=>
         have hz1:zKP (nz j) s.left= -1:=by unfold zKP;rw[hla]
         have hst:=rStep_none hla
         rw[hz1]
         have HST:=hid hst
         clear hla hz1 hst
         go_wp2
         refine⟨⟨j+1,by omega,by go_num,?_⟩,by simp[intOf];omega⟩
         unfold RedI
         rw[HSUCC.out,HST.out]
         exact⟨HL.out,HD.out,HP.out,HBW.out⟩
        |some q=>
         have hz1:zKP (nz j) s.left=(q:Int):=by unfold zKP;rw[hla]
         have hst:=rStep_some hla
         obtain⟨hq1,hq2⟩:=zGA hla
         rw[<- HLN.out]at hq1
         rw[hz1]
         obtain⟨g,c,x,hc1,hsp,hc2,hxv,hlw,hrn,_⟩:=HAT.out q hq1
         have hbr:=(HBBS.out (s.left[q]?.getD []) (by rw[List.getElem?_eq_getElem (by rw[<- HLN.out];exact hq1)];exact List.mem_append_right _ (List.getElem_mem _))).2
         obtain⟨r,hr⟩:=exq (s.left[q]?.getD [])
         rw[<- hr]at hst hsp hxv hlw hrn hbr
         have hbp:=posF_bnd hbr j
         have hlp:(posF r j).length=W:=by rw[zIK];exact hlw
         have HSC:=hid (r3scaled_c wr (some ⟨g,0,none⟩) W c r hlw hW hsp.ints (fun y hy=>by have:=hbr y hy;omega))
         have hpf1:x<0->posF r j=negF r:=fun h=>by unfold posF;rw[if_pos (by rw[<- hxv];exact h)]
         have hpf2:¬x<0->posF r j=r:=fun h=>by unfold posF;rw[if_neg (by rw[<- hxv];exact h)]
         obtain⟨P,hP⟩:=exq (posF r j)
         rw[<- hP]at hst hbp hlp hpf1 hpf2
         have hpn:∀k,(Value.slice pa dn pc).ownBlock=some k->k<wr.heap.size:=fun k hk=>by
          obtain⟨_,c,hc⟩:=zCA HP.out hk
          exact(Array.getElem?_eq_some_iff.1 hc).1
         have hnl:(negF r).length=W:=by unfold negF;rw[List.length_map];exact hlw
         have HST:=hid hst
         have HRN:=hid hrn
         have HBP:=hid hbp
         have HLP:=hid hlp
         have HPF1:=hid hpf1
         have HPF2:=hid hpf2
         have HPN:=hid hpn
         have HNL:=hid hnl
         have hqi:(q:Int)<(ln:Int):=by omega
         clear hla hz1 hst hq2 hsp hxv hlw hrn hbr hr hbp hlp hpf1 hpf2 hP hpn hnl
         go_upto_if 68 with fail
         go_cut [13]from 31 to 112 (fun v wx=>RowN (Value.slice pa dn pc).ownBlock wx v P∧Below wr.heap.size wr wx)
         case first=>
          by_cases hx0:x<0
          ·have HE:=hid (HPF1.out hx0)
           go_wp2_with (go_at_call 185;refine HSC.out.mono ?_;rintro e w3 ⟨v3,rfl,ho3,hb3⟩)
           go_meet
           case rel=>
            refine⟨?_,hb3⟩
            rw[HE.out]
            exact zKU ho3 HNL.out HPN.out
          ·have HE:=hid (HPF2.out hx0)
           go_wp2
           go_meet
           case rel=>
            refine⟨?_,Below.refl _ _⟩
            rw[HE.out]
            exact HRN.out
         case rest=>
          obtain⟨hq,hbc⟩:=hcut
          obtain⟨gp,cp,e,hsp⟩:=hq.form (by rw[HLP.out];omega)
          rw[HLP.out]at e
          subst e
          have hS:=RedS.start (w:=w) (wr:=wc) (L:=L) (j:=j) (l:=.slice (some ⟨g0,0,none⟩) ln lc) (d:=.slice da dn dc) (p:=.slice pa dn pc) ⟨by rw[<- HS.out];exact HL.out.below hbc,by rw[<- HS.out];exact HD.out.below hbc,by rw[<- HS.out];exact zBI HP.out hbc,zAA HBW.out hbc⟩ hq
          rw[<- HS.out]at hS
          have HS0:=hid hS
          have HBC:=hid hbc
          clear hS hsp hq hbc
          obtain⟨wo,hwo⟩:=exq (wr)
          subst hwo
          obtain⟨f,hf⟩:=exq (zBA P j)
          have HF:=hid (fun(r:List Int)=>show f r=zBA P j r by rw[hf])
          have hst2:=HST.out
          rw[<- hf]at hst2
          have HST2:=hid hst2
          have hjn:j<W:=hjlt
          clear hf hst2 HST HSC HPF1 HPF2 hc1 hc2
          go_wp2
          go_loopw [14,73] (fun v i wz=>∃k:Nat,k<=ln∧i=.int .i64 k∧RedS w wc.heap.size wz (.slice (some ⟨g0,0,none⟩) ln lc) (.slice da dn dc) v (.slice (some ⟨gp,0,none⟩) W cp) (.slice pa dn pc) s.left s.done (zIE f s.left q k) P s.piv∧Below wc.heap.size wc wz) (fun _ i _=>ln-(intOf i).toNat)
          case atStart=>exact⟨0,Nat.zero_le _,rfl,by rw[restT_zero];exact HS0.out,Below.refl _ _⟩
          case round=>
           obtain⟨k,hk,rfl,hS,hbz⟩:=hrel
           by_cases hkl:k<ln
           ·obtain⟨gk,ck,xk,hk1,hk2,_,_,hkw,_,_⟩:=HAT.out k hkl
            have hks:k<s.left.length:=by rw[<- HLN.out];exact hkl
            have hcell:wr.cell? ⟨g0,k,none⟩=some (.slice (some ⟨gk,0,none⟩) W ck):=((zAA HBC.out hbz).cell (p:=⟨g0,k,none⟩) hg0s).trans hk1
            have hgk:s.left[k]?.getD []=s.left[k]:=by rw[List.getElem?_eq_getElem hks];rfl
            by_cases hkq:k=q
            ·subst hkq
             have hre:=restT_eq (f:=f) hks
             have HRE:=hid hre
             have HSS:=hid hS
             have HBZ:=hid hbz
             clear hre hS hbz hgk hks hk1 hk2 hkw
             go_wp2
             exact⟨⟨k+1,by omega,by go_num,by rw[HRE.out];exact HSS.out,HBZ.out⟩,by simp[intOf];omega⟩
            ·have hne:¬(k:Int)=(q:Int):=by omega
             have hkb:=(HBBS.out s.left[k] (List.mem_append_right _ (List.getElem_mem _))).2
             have hrow:zAI wr (some ⟨gk,0,none⟩) s.left[k]:=by rw[<- hgk];exact hk2.ints.below (zAA HBC.out hbz)
             have hpp:zAI wr (some ⟨gp,0,none⟩) P:=(hS.hq.sp (by rw[HLP.out];omega)).ints
             rw[hgk]at hkw
             have HWO:=hid (zLR wr (some ⟨gk,0,none⟩) (some ⟨gp,0,none⟩) W ck cp s.left[k] P hkw HLP.out hW hrow hpp hkb HBP.out j hjlt)
             have hre:=restT_ne (f:=f) hks hkq
             have hXl:(zBA P j s.left[k]).length=W:=by rw[zGH (by rw[hkw,HLP.out])];exact hkw
             rw[HF.out s.left[k]]at hre
             obtain⟨X,hX⟩:=exq (zBA P j s.left[k])
             rw[<- hX]at HWO hre hXl
             have hrl:=restT_len f s.left q k
             obtain⟨R,hR⟩:=exq (zIE f s.left q k)
             rw[<- hR]at hre hrl hS
             obtain⟨rn,hrn⟩:=exq (R.length)
             obtain⟨va,vc,rfl⟩:∃va vc,u14=.slice va rn vc:=by
              obtain⟨_,ho1,_⟩:=hS.hr
              obtain⟨a',c',e⟩:=zAC ho1
              exact⟨a',c',by rw[e,hrn]⟩
             have hrn6:rn<=1000:=by omega
             have HRNL:=hid hrn
             have HRE:=hid hre
             have HXL:=hid hXl
             have HSS:=hid hS
             have HBZ:=hid hbz
             clear hre hS hbz hgk hks hk1 hk2 hkw hX hR hrn hXl hrow hpp hkb hrl
             go_wp2_with (go_at_call 251;refine HWO.out.mono ?_;rintro e w4 ⟨v4,b4,rfl,hb4s,ho4,hb4⟩;refine Stop.of ?_)
             refine Stop.go ?_
             obtain⟨xa,xc,rfl⟩:=zAC ho4
             have hba:Below wr.heap.size wr (w4.alloc (.cells #[.slice xa W xc] 24)):=hb4.alloc hb4.size _
             have h4:=HSS.out.below hba
             have hu:RowN (Value.slice pa dn pc).ownBlock (w4.alloc (.cells #[.slice xa W xc] 24)) (.slice xa W xc) X:=(zKU ho4 HXL.out (fun k' hk'=>by have:=h4.pR k' hk';have:=HSS.out.hR;omega)).keep (zMV.below ((Below.refl _ _).alloc (Nat.le_refl _) _))
             obtain⟨vs,hv1,hv2⟩:=h4.hr
             have hv1':=hv1
             rw[<- HRNL.out]at hv1'
             have M1:=hid (show rn+1<=maxLen by unfold maxLen;omega)
             have M2:=hid (show(rn+1)*24<=140737488355328 by omega)
             have M3:=hid h4.hR
             have H4:=hid h4
             have HV1:=hid hv1
             have HV1':=hid hv1'
             have HV2:=hid hv2
             have HU:=hid hu
             have HBA:=hid (zAA HBZ.out hba)
             clear h4 hv1 hv1' hv2 hu hba ho4 hb4 hb4s
             go_wp2_with (at_builtin;refine zAL _ rfl (.tmp 81) (.tmp 86) 22 rfl wc.heap.size 24 (.slice none 0 0) 1 24 Tryz.underlying22 zHU rfl Nat.one_pos (.slice va rn vc) rn vs rfl HV1'.out (some ⟨w4.heap.size,0,none⟩) 1 1 [.slice xa W xc] rfl rfl zBS (zBK w4 _ _) (zCI _ _ _) M1.out M2.out M3.out ?_;refine Stop.of ?_)
             refine Stop.go ?_
             intro a5 c5 w5 own5 g5
             have h5:=H4.out.push HV1.out HV2.out HU.out g5 (r':=.slice a5 (rn+1) c5) (by rw[<- HRNL.out];exact own5)
             rw[<- HRE.out]at h5
             have hb5:Below wc.heap.size wc w5:=HBA.out.grown g5 M3.out fun k' hk'=>(zCA HV1'.out hk').1
             go_wp2
             exact⟨⟨k+1,by omega,by go_num,h5,hb5⟩,by simp[intOf];omega⟩
           ·obtain rfl:ln=k:=by omega
            have hall:=restT_all (f:=f) (a:=q) HLN.out.symm
            rw[hall]at hS
            have hS2:=hS.drop
            have HS2:=hid hS2
            clear hS hS2 hall hbz hkl hk
            obtain⟨wq,hwq⟩:=exq (wr)
            subst hwq
            go_wp2
            go_loopw [91] (fun i wz=>∃k:Nat,k<=dn∧i=.int .i64 k∧RedS w wc.heap.size wz (.slice none 0 0) (.slice da dn dc) u14 (.slice (some ⟨gp,0,none⟩) W cp) (.slice pa dn pc) [] (zKR f s.done k) ((s.left.eraseIdx q).map f) P s.piv) (fun i _=>dn-(intOf i).toNat)
            case atStart=>exact⟨0,Nat.zero_le _,rfl,by rw[doneT_zero];exact HS2.out⟩
            case round=>
             obtain⟨k,hk,rfl,hS⟩:=hrel
             by_cases hkl:k<dn
             ·have hks:k<s.done.length:=by rw[<- HDN.out];exact hkl
              obtain⟨gd,cd,ud,ed,_,_,_,hcd,hrd,_,_⟩:=hS.hd.at (by rw[doneT_len];exact HDN.out.symm) hkl
              cases ed
              rw[doneT_at hks]at hrd
              have hkw:=HBBS.out s.done[k] (List.mem_append_left _ (List.getElem_mem _))
              obtain⟨gk,ck,ek,hsk⟩:=hrd.form (by rw[hkw.1];omega)
              rw[hkw.1]at ek
              subst ek
              have hpp:zAI wr (some ⟨gp,0,none⟩) P:=(hS.hq.sp (by rw[HLP.out];omega)).ints
              have HWO:=hid (zLR wr (some ⟨gk,0,none⟩) (some ⟨gp,0,none⟩) W ck cp s.done[k] P hkw.1 HLP.out hW hsk.ints hpp hkw.2 HBP.out j hjlt)
              have hre:=doneT_succ (f:=f) hks
              have hXl:(zBA P j s.done[k]).length=W:=by rw[zGH (by rw[hkw.1,HLP.out])];exact hkw.1
              rw[HF.out s.done[k]]at hre
              obtain⟨X,hX⟩:=exq (zBA P j s.done[k])
              rw[<- hX]at HWO hre hXl
              have hki:(k:Int)<(dn:Int):=by omega
              have HRE:=hid hre
              have HXL:=hid hXl
              have HSS:=hid hS
              clear hre hS hks hkw hX hXl hpp hrd hsk
              go_wp2_with (go_at_call 251;refine HWO.out.mono ?_;rintro e w4 ⟨v4,b4,rfl,hb4s,ho4,hb4⟩;refine Stop.of ?_)
              refine Stop.go ?_
              obtain⟨xa,xc,rfl⟩:=zAC ho4
              have h4:=HSS.out.below hb4
              have hu:RowN (Value.slice pa dn pc).ownBlock w4 (.slice xa W xc) X:=zKU ho4 HXL.out (fun k' hk'=>by have:=h4.pR k' hk';have:=HSS.out.hR;omega)
              obtain⟨g6,c6,v6,e6,hc6,hf6,h6⟩:=h4.store (by rw[doneT_len];exact HDN.out.symm) hkl hu
              cases e6
              rw[<- HRE.out]at h6
              have H6:=hid h6
              clear h6 h4 hu ho4 hb4 hb4s hcd
              go_wp2
              exact⟨⟨k+1,by omega,by go_num,H6.out⟩,by simp[intOf];omega⟩
             ·obtain rfl:dn=k:=by omega
              have hall:=doneT_all (f:=f) HDN.out.symm
              rw[hall]at hS
              obtain⟨D,hD⟩:=exq (s.done.map f)
              have hDl:D.length=dn:=by rw[hD,List.length_map];exact HDN.out.symm
              have hst3:=HST2.out
              rw[<- hD]at hst3 hS
              have h4:=hS.below ((Below.refl _ wr).alloc (Nat.le_refl _) (.cells #[.slice (some ⟨gp,0,none⟩) W cp] 24))
              obtain⟨vs,hv1,hv2⟩:=h4.hd
              have hv1':=hv1
              rw[hDl]at hv1'
              have hpl:=HPLS.out
              rw[<- HDN.out]at hpl
              have HPL2:=hid hpl
              have M1:=hid (show dn+1<=maxLen by unfold maxLen;omega)
              have M2:=hid (show(dn+1)*24<=140737488355328 by omega)
              have M2':=hid (show(dn+1)*8<=140737488355328 by omega)
              have M3:=hid (Nat.le_trans h4.hw h4.hR)
              have H4:=hid h4
              have HV1:=hid hv1
              have HV1':=hid hv1'
              have HV2:=hid hv2
              have HDL:=hid hDl
              have HST3:=hid hst3
              clear h4 hv1 hv1' hv2 hDl hst3 hD hall hS hpl hk hkl
              go_wp2_with (at_builtin;refine zAL _ rfl (.tmp 105) (.tmp 107) 22 rfl w.heap.size 24 (.slice none 0 0) 1 24 Tryz.underlying22 zHU rfl Nat.one_pos (.slice da dn dc) dn vs rfl HV1'.out (some ⟨wr.heap.size,0,none⟩) 1 1 [.slice (some ⟨gp,0,none⟩) W cp] rfl rfl zBS (zBK wr _ _) (zCI _ _ _) M1.out M2.out M3.out ?_;refine Stop.of ?_)
              refine Stop.go ?_
              intro a5 c5 w5 own5 g5
              obtain⟨e1,e2,e3,e4⟩:=H4.out.onto HV1.out HV2.out g5 (d':=.slice a5 (dn+1) c5) (by rw[HDL.out];exact own5)
              have hal:Below w5.heap.size w5 (w5.alloc (.cells #[.int .i64 j] 3)):=(Below.refl _ _).alloc (Nat.le_refl _) _
              have E1:=hid (e1.below hal)
              have E2:=hid (e2.below hal)
              have E3:=hid (zBI e3 hal)
              have E4:=hid (zAA e4 hal)
              have e3':=E3.out
              rw[HPL2.out]at e3'
              have E3':=hid e3'
              have M4:=hid E4.out.size
              clear e1 e2 e3 e4 e3' hal own5 g5
              go_wp2_with (at_builtin;refine zHX _ rfl (.tmp 109) (.tmp 111) 24 rfl w.heap.size 3 (.int .i64 0) 1 8 Tryz.underlying24 zDX rfl Nat.one_pos (.slice pa dn pc) dn _ rfl E3'.out ⟨w5.heap.size,0,none⟩ 1 1 [.int .i64 j] rfl rfl (zBK w5 _ _ _ rfl) (zEB _) M1.out M2'.out M4.out ?_;refine Stop.of ?_)
              refine Stop.go ?_
              intro a6 c6 w6 own6 g6 hat6
              have hfin:=red_end E1.out E2.out E3.out E4.out g6 (by rw[World.size_alloc];exact hat6) (by rw[HPL2.out];exact own6)
              have HFIN:=hid hfin
              clear hfin own6 g6 hat6
              go_wp2
              refine⟨⟨j+1,by omega,by go_num,?_⟩,by simp[intOf];omega⟩
              unfold RedI
              rw[HSUCC.out,HST3.out]
              exact HFIN.out
end
section
theorem zKV{C:List (List Int)}{n:Nat}(h:∀r∈C,r.length=n)(t:Nat):(rRed C t).done.length+(rRed C t).left.length=C.length∧(rRed C t).piv.length=(rRed C t).done.length:=
 ⟨rRed_len C h t,(zED C h t).2.symm⟩
end
section
open Go.RowKit
theorem zLU(n lo hi:Int)(w:World):Calls Tryz.prog 88 #[.int .i64 n,.int .i64 lo,.int .i64 hi] w fun e w'=>e=.returned (.bool (inB n lo hi))∧w=w':=by
 by_cases h1:lo<=n<;>by_cases h2:n<=hi
 all_goals
  go_enter Tryz.func88,Tryz.ntmps88
  go_wp2
  go_ret
  exact⟨zBB (by simp[inB,h1,h2]),rfl⟩
theorem beyond1(w:World)(b:Nat)(m:Int)(hm:0<=m∧m<=1000000000)(hc:w.cell? ⟨b,0,none⟩=some (.int .i64 m))(hb:b<w.heap.size):
 PredI Tryz.prog 167 #[.pointer (some ⟨b,0,none⟩)] w (fun n=>!(inB n (-m) m)):=by
 intro x W hW
 have hc':W.cell? ⟨b,0,none⟩=some (.int .i64 m):=(hW.cell (p:=⟨b,0,none⟩) hb).trans hc
 obtain⟨z,hz⟩:=exq (-m)
 have hw:IntKind.i64.wrap (-m)=z:=by rw[hz];exact IntWalk.i64_in _ (by omega)
 rw[<- hz]
 obtain⟨B,hB⟩:=exq (inB x z m)
 have HP:=hid (zLU x z m W)
 rw[<- hB]at HP
 simp only[<- hB]
 clear hB hc hz
 show Calls Tryz.prog 167 #[.int .i64 x,.pointer (some ⟨b,0,none⟩)] W _
 go_enter Tryz.func167,Tryz.ntmps167
 go_wp2_with (go_at_call 88;refine HP.out.mono ?_;rintro e w1 ⟨rfl,rfl⟩)
 go_ret
 exact⟨rfl,Below.refl _ _⟩
def milB(l:List Int):Bool:=l.all (fun n=>inB n (-1000000) 1000000)
end
section
open Go.RowKit
theorem any_mil(h:List Int):h.any (fun n=>!(inB n (-1000000) 1000000))=!milB h:=by unfold milB;rw[List.not_all_eq_any_not]
theorem beyond_c(w:World)(m:Int):Calls Tryz.prog 106 #[.int .i64 m] w fun e w'=>∃b,e=.returned (.func (.func 167) #[] #[.pointer (some ⟨b,0,none⟩)])∧w'.cell? ⟨b,0,none⟩=some (.int .i64 m)∧b<w'.heap.size∧Below w.heap.size w w':=by
 go_enter Tryz.func106,Tryz.ntmps106
 go_wp2
 go_ret
 exact⟨w.heap.size,rfl,by rw[World.cell?_alloc_at _ _ _ _ rfl];rfl,by simp,(Below.refl _ _).alloc (Nat.le_refl _) _⟩
end
section
open Go.RowKit
theorem mil_le{h:List Int}(e:milB h=true):∀x∈h,-1000000<=x∧x<=1000000:=by
 intro x hx
 have:=List.all_eq_true.1 e x hx
 unfold inB at this
 simp only[Bool.and_eq_true,decide_eq_true_eq]at this
 omega
end
section
theorem zOA:∀(m:Nat) (a:Int) (j:Nat),j<m->(upF a m)[j]? =some (a+j)
 |0,_,_,h=>by omega
 |m+1,a,0,_=>by simp[upF]
 |m+1,a,j+1,h=>by
  show(upF (a+1) m)[j]? =_
  rw[zOA m (a+1) j (by omega)];congr 1;omega
theorem upF_snoc:∀(m:Nat) (a:Int),upF a (m+1)=upF a m++[a+m]
 |0,a=>by simp[upF]
 |m+1,a=>by
  show a::upF (a+1) (m+1)=a::(upF (a+1) m++_)
  rw[upF_snoc m (a+1)]
  congr 3;omega
theorem upF_range(m:Nat):∀a:Nat,upF (a:Int) m=(List.range' a m).map (fun j:Nat=>(j:Int)):=by
 induction m with
 |zero=>intro a;rfl
 |succ m ih=>
  intro a
  show(a:Int)::upF ((a:Int)+1) m=_
  have:=ih (a+1)
  rw[show((a:Int)+1)=((a+1:Nat):Int)by omega,this]
  simp[List.range'_succ]
def zMU(n k:Nat)(x:List Int)(m:Nat):Prop:=∀j,m<=j->j<k->x[j]? =some ((n:Int)-k+j)
theorem tail_le{n k m:Nat}{x:List Int}(hl:x.length=k)(hp:x.Pairwise (· < ·))(hb:∀y∈x,y<(n:Int))(hm:m<k)(ht:zMU n k x (m+1)):x[m]?.getD 0<=(n:Int)-k+m:=by
 have hml:m<x.length:=by omega
 rw[List.getElem?_eq_getElem hml]
 by_cases e:m+1=k
 ·have:=hb _ (List.getElem_mem hml);simp;omega
 ·have h1:=ht (m+1) (Nat.le_refl _) (by omega)
  have hml1:m+1<x.length:=by omega
  rw[List.getElem?_eq_getElem hml1]at h1
  have h2:=List.pairwise_iff_getElem.1 hp m (m+1) hml hml1 (by omega)
  have h3:=Option.some.inj h1
  simp;omega
theorem tail_step{n k m:Nat}{x:List Int}(hl:x.length=k)(hm:m<k)(ht:zMU n k x (m+1))(he:x[m]?.getD 0=(n:Int)-k+m):zMU n k x m:=by
 intro j h1 h2
 by_cases e:j=m
 ·subst e
  rw[List.getElem?_eq_getElem (by omega)]at he⊢
  rw[<- he];rfl
 ·exact ht j (by omega) h2
theorem tail_drop{n k m:Nat}{x:List Int}(hl:x.length=k)(hk:k<=n)(hm:m<=k)(ht:zMU n k x m):x.drop m=upF ((n:Int)-(k-m:Nat)) (k-m):=by
 apply List.ext_getElem?
 intro j
 rw[List.getElem?_drop]
 rcases Nat.lt_or_ge j (k-m)with h|h
 ·rw[ht (m+j) (by omega) (by omega),zOA _ _ _ h];congr 1;omega
 ·rw[List.getElem?_eq_none (by omega),List.getElem?_eq_none (by rw[zFV];omega)]
theorem next_none{n k:Nat}{x:List Int}(hl:x.length=k)(hk:k<=n)(ht:zMU n k x 0):zHT n x=none:=by
 have:=tail_drop hl hk (Nat.zero_le _) ht
 rw[List.drop_zero,Nat.sub_zero]at this
 rw[this]
 exact zOQ k _ (by omega)
def zIW(x:List Int)(m j:Nat):List Int:=x.take m++upF (x[m]?.getD 0+1) (j-m)++x.drop j
theorem fillS_len{x:List Int}{m j:Nat}(h1:m<=j)(h2:j<=x.length):(zIW x m j).length=x.length:=by
 unfold zIW;simp[zFV];omega
theorem fillS_get{x:List Int}{m j:Nat}(h1:m<j)(h2:j<=x.length):(zIW x m j)[j-1]?.getD 0=x[m]?.getD 0+(j-m:Nat):=by
 unfold zIW
 rw[List.getElem?_append_left (by simp[zFV];omega),List.getElem?_append_right (by simp;omega)]
 simp only[List.length_take]
 rw[show j-1-min m x.length=j-m-1 by omega,zOA _ _ _ (by omega)]
 simp;omega
theorem fillS_set{x:List Int}{m j:Nat}(h1:m<=j)(h2:j<x.length):(zIW x m j).set j (x[m]?.getD 0+(j+1-m:Nat))=zIW x m (j+1):=by
 unfold zIW
 have hl:(x.take m++upF (x[m]?.getD 0+1) (j-m)).length=j:=by simp[zFV];omega
 rw[List.set_append_right _ _ (by omega),hl,Nat.sub_self,List.drop_eq_getElem_cons h2,List.set_cons_zero,show j+1-m=(j-m)+1 by omega,upF_snoc]
 simp
 omega
theorem fillS_start{x:List Int}{m:Nat}(hm:m<x.length):x.set m (x[m]?.getD 0+1)=zIW x m (m+1):=by
 have:=fillS_set (x:=x) (m:=m) (j:=m) (Nat.le_refl _) hm
 rw[show m+1-m=1 by omega]at this
 unfold zIW at this⊢
 rw[<- this]
 simp[upF]
theorem fillS_done{n k m:Nat}{x:List Int}(hl:x.length=k)(hk:k<=n)(hm:m<k)(ht:zMU n k x (m+1))(hlt:x[m]?.getD 0<(n:Int)-k+m):zHT n x=some (zIW x m k):=by
 have h1:=tail_drop hl hk (by omega) ht
 have hml:m<x.length:=by omega
 have hx:x=x.take m++x[m]::upF ((n:Int)-(k-(m+1):Nat)) (k-(m+1)):=by
  rw[<- h1,<- List.drop_eq_getElem_cons hml,List.take_append_drop]
 have hd:x[m]?.getD 0=x[m]:=by rw[List.getElem?_eq_getElem hml];rfl
 rw[hd]at hlt
 have h2:=nextS_at (n:=(n:Int)) (m:=k-(m+1)) (d:=x[m]) (by omega) (x.take m)
 rw[<- hx]at h2
 rw[h2]
 unfold zIW
 rw[hd,List.drop_eq_nil_of_le (by omega),List.append_nil,show k-(m+1)+1=k-m by omega]
theorem zKD{α:Type}{l:List α}{i:Nat}{x:α}(h:l[i]? =some x):l.take i++[x]=l.take (i+1):=by
 obtain⟨hi,rfl⟩:=List.getElem?_eq_some_iff.1 h
 rw[List.take_succ_eq_append_getElem hi]
theorem take_all_at{α:Type}{l:List α}{i:Nat}{x:α}(h:l[i]? =some x)(hn:l[i+1]? =none):l.take (i+1)=l:=by
 exact List.take_of_length_le (List.getElem?_eq_none_iff.1 hn)
end
section
open Go.RowKit
attribute [local go_sem] Oper.semAt_some
theorem allI_upF(n:Nat):allI n=upF 0 n:=by
 have:=upF_range n 0
 rw[show((0:Nat):Int)=0 from rfl]at this
 rw[this]
 unfold allI
 rw[List.range_eq_range']
theorem iter_sets(w0:World)(n k kb nb:Nat)(hn:n<=1000)(hk:k<=1000)(hk1:1<=k)(hkb:kb<w0.heap.size)(hnb:nb<w0.heap.size)(hf0:w0.cell? ⟨kb,0,none⟩=some (.int .i64 k))(hf1:w0.cell? ⟨nb,0,none⟩=some (.int .i64 n)):
 IterInts Tryz.prog 3 222 #[.pointer (some ⟨kb,0,none⟩),.pointer (some ⟨nb,0,none⟩)] (comb n k 0) (fun q=>q=kb∨q=nb) w0:=by
 obtain⟨xs,hxs⟩:=exq (comb n k 0)
 have hfacts:∀x∈xs,x.length=k∧x.Pairwise (· < ·)∧(∀y∈x,y<(n:Int))∧∀j:Nat,(0:Int)<=x[j]?.getD 0:=fun x hx=>by
  rw[hxs]at hx
  obtain⟨h1,h2⟩:=zJB n k 0 x hx
  exact⟨zCR n k 0 x hx,h1,fun y hy=>by have:=(h2 y hy).2;omega,fun j=>by
   rcases Nat.lt_or_ge j x.length with h|h
   ·rw[List.getElem?_eq_getElem h];have:=(h2 _ (List.getElem_mem h)).1;simp;omega
   ·rw[List.getElem?_eq_none h];simp⟩
 have hchn:Chn n none xs:=by rw[hxs];have:=zPB n k 0;rwa [Int.zero_add]at this
 have hhead:k<=n->xs[0]? =some (upF 0 k):=fun hkn=>by
  rw[hxs]
  obtain⟨t,ht⟩:=zMQ n k 0 hkn
  rw[ht];rfl
 have hnil:¬k<=n->xs=[]:=fun h=>by rw[hxs];exact zEU n k 0 (by omega)
 rw[<- hxs]
 have HF:=hid hfacts
 have HC:=hid hchn
 have HH:=hid hhead
 have HNL:=hid hnil
 clear hfacts hchn hhead hnil hxs
 intro l J Jx W hb hJ hY h0
 have hg0:W.cell? ⟨kb,0,none⟩=some (.int .i64 k):=(hb.cell (p:=⟨kb,0,none⟩) hkb).trans hf0
 have hg1:W.cell? ⟨nb,0,none⟩=some (.int .i64 n):=(hb.cell (p:=⟨nb,0,none⟩) hnb).trans hf1
 have hkW:kb<W.heap.size:=Nat.lt_of_lt_of_le hkb hb.size
 have hnW:nb<W.heap.size:=Nat.lt_of_lt_of_le hnb hb.size
 have HJ:=hid hJ
 have HY:=hid hY
 have H0:=hid h0
 have HALL:=hid (all_c W k hk)
 clear hJ hY h0 hf0 hf1 hb
 refine callsIn_of_wp Tryz.func222 rfl trivial ?_ rfl
 simp only[Tryz.ntmps222,List.size_toArray,List.length_cons,List.length_nil,Nat.reduceAdd,Nat.reduceSub,Array.replicate_succ,Array.replicate_zero,List.push_toArray,List.append_toArray,List.nil_append,List.cons_append]
 gi_wp2_with (refine⟨trivial,rfl,?_⟩;gi_at_call 194;refine(callsIn_wide.2 HALL.out).mono ?_;rintro e w1 ⟨v,rfl,ho1,hb1⟩;refine Stop.of ?_)
 refine Stop.go ?_
 obtain⟨it,cap,rfl,hit,hr1⟩:=zIC ho1 (allI_len k) hk1
 rw[allI_upF]at hr1
 have hJ1:J it [] w1:=HJ.out it _ _ _ hit (H0.out it hit) (Keep.of_below hb1)
 have hkb1:=hb1.block kb hkW
 have hnb1:=hb1.block nb hnW
 have hs1:=hb1.size
 clear ho1 HALL
 by_cases hkn:k<=n
 ·have hhead:=HH.out hkn
  have hit1:=hr1.lt
  have HIT:=hid hit
  clear hit
  gi_wp2
  gi_loopg [] xs.length (fun(g:Nat) wr=>∃(i:Nat) (x:List Int),g=xs.length-i∧xs[i]? =some x∧J it (xs.take i) wr∧zBR wr it x∧wr.heap[kb]? =W.heap[kb]? ∧wr.heap[nb]? =W.heap[nb]? ∧W.heap.size<=wr.heap.size)
  case atStart=>exact⟨0,upF 0 k,by omega,hhead,by rw[List.take_zero];exact hJ1,hr1,hkb1,hnb1,hs1⟩
  case round=>
   obtain⟨i,x,rfl,hx,hJk,hrk,hfk,hfn,hsz⟩:=hrel
   have hxm:x∈xs:=List.mem_of_getElem? hx
   obtain⟨hxl,hxp,hxb,hxn⟩:=HF.out x hxm
   have hil:i<xs.length:=(List.getElem?_eq_some_iff.1 hx).1
   obtain⟨sp,hrow⟩:=hrk
   have hyk:=HY.out it (xs.take i) x cap sp wr (by rw[zKD hx];exact List.take_prefix _ _) HIT.out (Array.getElem?_eq_some_iff.1 hrow).1 hJk hrow
   rw[hxl,zKD hx]at hyk
   have hw0:wr.cell? ⟨kb,0,none⟩=some (.int .i64 k):=(World.cell?_of_block (a:=⟨kb,0,none⟩) hfk).trans hg0
   have hw1:wr.cell? ⟨nb,0,none⟩=some (.int .i64 n):=(World.cell?_of_block (a:=⟨nb,0,none⟩) hfn).trans hg1
   have hkn':(k:Int)<=(n:Int):=by omega
   have HRK:=hid (show zBR wr it x from⟨sp,hrow⟩)
   have HFK:=hid hfk
   have HFN:=hid hfn
   have HX:=hid hx
   have HXL:=hid hxl
   have HXP:=hid hxp
   have HXB:=hid hxb
   have HXN:=hid hxn
   clear hrow hJk hfk hfn hx hxm hxl hxp hxb hxn hhead hJ1 hr1 hkb1 hnb1
   obtain⟨fn,tmps,assign,body,hy,hR⟩:=hyk
   gi_wp2
   refine⟨rfl,hR.mono ?_⟩
   clear hR hy
   rintro e W3 (⟨rfl,hJ3,hs3,hk3⟩|⟨rfl,hJx⟩)
   ·have hr3:zBR W3 it x:=HRK.out.keep (hk3 it (Or.inr rfl))
    have hfk3:W3.heap[kb]? =W.heap[kb]? :=(hk3 kb (Or.inl (Or.inl rfl))).trans HFK.out
    have hfn3:W3.heap[nb]? =W.heap[nb]? :=(hk3 nb (Or.inl (Or.inr rfl))).trans HFN.out
    have hg30:W3.cell? ⟨kb,0,none⟩=some (.int .i64 k):=(World.cell?_of_block (a:=⟨kb,0,none⟩) hfk3).trans hg0
    have hg31:W3.cell? ⟨nb,0,none⟩=some (.int .i64 n):=(World.cell?_of_block (a:=⟨nb,0,none⟩) hfn3).trans hg1
    have HR3:=hid hr3
    have HK3:=hid hfk3
    have HN3:=hid hfn3
    have HJ3:=hid hJ3
    clear hr3 hfk3 hfn3 hJ3 hk3 hw0 hw1 HRK HFK HFN
    gi_wp2
    gi_loopw [5] (fun i5 wi=>∃i0:Int,i5=.int .i64 i0∧ -1<=i0∧i0<k∧zMU n k x (i0+1).toNat∧Below W3.heap.size W3 wi) (fun i5 _=>(intOf i5+1).toNat)
    case atStart=>
     refine⟨k-1,by first|rfl| (congr 1),by omega,by omega,?_,Below.refl _ _⟩
     intro j h1 h2
     omega
    case round=>
     obtain⟨i0,rfl,hi1,hi2,hT,hbi⟩:=hrel
     have hgk:wr.cell? ⟨kb,0,none⟩=some (.int .i64 k):=(hbi.cell (p:=⟨kb,0,none⟩) (by show kb<_;omega)).trans hg30
     have hgn:wr.cell? ⟨nb,0,none⟩=some (.int .i64 n):=(hbi.cell (p:=⟨nb,0,none⟩) (by show nb<_;omega)).trans hg31
     have hri:=HR3.out.keep (hbi.block it HR3.out.lt)
     have HBI:=hid hbi
     clear hbi
     by_cases h0:0<=i0
     ·obtain⟨m,rfl⟩:=Int.eq_ofNat_of_zero_le h0
      have e1:((m:Int)+1).toNat=m+1:=by omega
      rw[e1]at hT
      have hmk:m<k:=by omega
      have hle:=tail_le HXL.out HXP.out HXB.out hmk hT
      have hc:wr.cell? ⟨it,m,none⟩=some (.int .i64 (x[m]?.getD 0)):=hri.cell (by rw[HXL.out];exact hmk)
      have hw1:wrap64 ((n:Int)-k)=(n:Int)-k:=by unfold wrap64;omega
      have hw2:wrap64 ((n:Int)-k+m)=(n:Int)-k+m:=by unfold wrap64;omega
      have hz:=hri.frozen m
      have hlt3:=hri.lt
      have HRI:=hid hri
      clear hri
      have hm0:(0:Int)<=(m:Int):=by omega
      have hm1:(m:Int)<(k:Int):=by omega
      have HT:=hid hT
      by_cases he:x[m]?.getD 0=(n:Int)-k+m
      ·have hst:=tail_step HXL.out hmk hT he
       have hbe:(x[m]?.getD 0==(n:Int)-k+m)=true:=by simpa using he
       have HST:=hid hst
       clear he hst hT hle
       gi_wp2
       gi_quiet (fail)
       gi_wp2
       refine⟨⟨(m:Int)-1,rfl,by omega,by omega,?_,zAN HBI.out nq⟩,?_⟩
       ·rw[show((m:Int)-1+1).toNat=m by omega];exact HST.out
       ·simp[intOf]
      ·have hbe:(x[m]?.getD 0==(n:Int)-k+m)=false:=by simpa using he
       have hlt:x[m]?.getD 0<(n:Int)-k+m:=by omega
       have HLT:=hid hlt
       clear he hT hle hlt
       gi_wp2
       gi_quiet (fail)
       have HRQ:=hid (show zBR (wr.drewN nq) it x from HRI.out)
       have HBQ:=hid (zAN HBI.out nq)
       have hgk2:(wr.drewN nq).cell? ⟨kb,0,none⟩=some (.int .i64 k):=hgk
       have hc2:(wr.drewN nq).cell? ⟨it,m,none⟩=some (.int .i64 (x[m]?.getD 0)):=hc
       have hz2:(wr.drewN nq).frozen? ⟨it,m,none⟩=false:=hz
       have hlt2:it<(wr.drewN nq).heap.size:=hlt3
       clear HRI HBI hgk hgn hc hz hlt3
       generalize wr.drewN nq=w4 at HRQ HBQ hgk2 hc2 hz2 hlt2⊢
       have hv:wrap64 (x[m]?.getD 0+1)=x[m]?.getD 0+1:=by
        have h1:=HLT.out
        have h2:(0:Int)<=x[m]?.getD 0:=HXN.out m
        unfold wrap64;omega
       have HV:=hid hv
       clear hv
       have HKS:=hid (HRQ.out.set m (by rw[HXL.out];exact hmk) (x[m]?.getD 0+1))
       rw[fillS_start (by rw[HXL.out];exact hmk)]at HKS
       have HW9:=hid (show wrap64 ((m:Int)+1)=((m+1:Nat):Int)by unfold wrap64;omega)
       gi_wp2
       gi_loopw [6] (fun v wj=>∃j:Nat,m+1<=j∧j<=k∧v=.int .i64 j∧zBR wj it (zIW x m j)∧Keep (fun q=>q≠it) w4 wj) (fun v _=>k-(intOf v).toNat)
       case atStart=>exact⟨m+1,Nat.le_refl _,by omega,by rw[show((m:Int)+1)=((m+1:Nat):Int)by omega],by have h:=HKS.out;with_reducible (first| (rw[HV.out];exact h)|exact h),Keep.set _ _ _ _⟩
       case round=>
        obtain⟨j,hj1,hj2,rfl,hrj,hkj⟩:=hrel
        have hgj:wr.cell? ⟨kb,0,none⟩=some (.int .i64 k):=hkj.cell hgk2 (by have:=HIT.out;omega)
        by_cases hjk:j<k
        ·have hlen:=fillS_len (m:=m) (j:=j) (x:=x) (by omega) (show j<=x.length by rw[HXL.out];omega)
         have hget:=fillS_get (x:=x) (show m<j by omega) (by rw[HXL.out];omega)
         have hset:=fillS_set (x:=x) (show m<=j by omega) (by rw[HXL.out];omega)
         have hcj:=hrj.cell (j:=j-1) (by rw[hlen,HXL.out];omega)
         rw[hget]at hcj
         have hzj:=hrj.frozen j
         have hcj2:=hrj.cell (j:=j) (by rw[hlen,HXL.out];exact hjk)
         obtain⟨u,hu⟩:=exq ((zIW x m j)[j]?.getD 0)
         rw[<- hu]at hcj2
         have hltj:=hrj.lt
         have hwj:wrap64 ((j:Int)-1)=((j-1:Nat):Int):=by unfold wrap64;omega
         have hwv:wrap64 (x[m]?.getD 0+((j-m:Nat):Int)+1)=x[m]?.getD 0+((j+1-m:Nat):Int):=by
          have h1:=HLT.out
          have h2:(0:Int)<=x[m]?.getD 0:=HXN.out m
          unfold wrap64;omega
         have HSJ:=hid (hrj.set j (by rw[hlen,HXL.out];exact hjk) (x[m]?.getD 0+((j+1-m:Nat):Int)))
         rw[hset]at HSJ
         have i1:(0:Int)<=((j-1:Nat):Int):=by omega
         have i2:((j-1:Nat):Int)<(k:Int):=by omega
         have i3:(0:Int)<=(j:Int):=by omega
         have i4:(j:Int)<(k:Int):=by omega
         have HKJ:=hid hkj
         obtain⟨y,hy⟩:=exq (x[m]?.getD 0+((j-m:Nat):Int))
         obtain⟨z,hz⟩:=exq (x[m]?.getD 0+((j+1-m:Nat):Int))
         rw[<- hy,<- hz]at hwv
         rw[<- hy]at hcj
         rw[<- hz]at HSJ
         obtain⟨p,hp⟩:=exq (j-1)
         rw[<- hp]at hcj hwj i1 i2
         have hjp:(j:Int)-1=(p:Int):=by omega
         clear hrj hkj hlen hget hset hy hz hp hu
         gi_wp2
         refine⟨⟨j+1,by omega,by omega,?_,HSJ.out,HKJ.out.trans (Keep.set _ _ _ _)⟩,by simp[intOf];omega⟩
         rw[show((j:Int)+1)=((j+1:Nat):Int)by omega]
        ·obtain rfl:j=k:=by omega
         have hnx:=HC.out.at HX.out
         rw[fillS_done HXL.out hkn hmk HT.out HLT.out]at hnx
         have hi1:i+1<xs.length:=(List.getElem?_eq_some_iff.1 hnx).1
         have HNX:=hid hnx
         have HKJ:=hid hkj
         have HRJ:=hid hrj
         clear hnx hkj hrj
         gi_wp2
         gi_roundg (xs.length-(i+1))
         case measure=>omega
         case rel=>
          refine⟨i+1,zIW x m j,rfl,HNX.out,?_,HRJ.out,?_,?_,?_⟩
          ·exact HJ.out it _ W3 _ HIT.out HJ3.out ((Keep.of_below HBQ.out).trans HKJ.out)
          ·exact(HKJ.out.block kb (by have:=HBQ.out.size;omega) (by have:=HIT.out;omega)).trans ((HBQ.out.block kb (by omega)).trans HK3.out)
          ·exact(HKJ.out.block nb (by have:=HBQ.out.size;omega) (by have:=HIT.out;omega)).trans ((HBQ.out.block nb (by omega)).trans HN3.out)
          ·have:=HKJ.out.size;have:=HBQ.out.size;omega
     ·obtain rfl:i0= -1:=by omega
      have hn0:decide ((0:Int)<= -1)=false:=by decide
      have HT:=hid hT
      clear hT
      gi_wp2
      gi_quiet (fail)
      gi_wp2
      refine bodyPost_ret (results_none rfl _ _ _) rfl ?_
      refine⟨⟨_,rfl⟩,.inl ⟨it,HIT.out,?_⟩⟩
      have hnx:=HC.out.at HX.out
      rw[next_none HXL.out hkn (by simpa using HT.out)]at hnx
      rw[<- take_all_at HX.out hnx]
      exact HJ.out it _ W3 _ HIT.out HJ3.out (Keep.of_below (zAN HBI.out _))
   ·gi_wp2
    refine bodyPost_ret (results_none rfl _ _ _) rfl ?_
    exact⟨⟨_,rfl⟩,.inr ⟨_,List.take_prefix _ _,hJx⟩⟩
 ·have HNIL:=hid (HNL.out hkn)
  have hkb':w1.cell? ⟨kb,0,none⟩=some (.int .i64 k):=(World.cell?_of_block (a:=⟨kb,0,none⟩) hkb1).trans hg0
  have hnb':w1.cell? ⟨nb,0,none⟩=some (.int .i64 n):=(World.cell?_of_block (a:=⟨nb,0,none⟩) hnb1).trans hg1
  have hd:decide ((k:Int)<=(n:Int))=false:=by simp;omega
  have HJ1:=hid hJ1
  have HIT:=hid hit
  clear hJ1 hit hr1
  gi_wp2
  gi_loopw [] (fun wr=>∃q,wr=w1.drewN q) (fun _=>0)
  case atStart=>exact⟨0,rfl⟩
  case round=>
   obtain⟨q,rfl⟩:=hrel
   have hkb2:(w1.drewN q).cell? ⟨kb,0,none⟩=some (.int .i64 k):=hkb'
   have hnb2:(w1.drewN q).cell? ⟨nb,0,none⟩=some (.int .i64 n):=hnb'
   gi_wp2
   go_end0
   refine⟨⟨_,rfl⟩,.inl ⟨it,HIT.out,?_⟩⟩
   rw[HNIL.out]
   exact HJ.out it _ _ _ HIT.out HJ1.out ((Keep.refl _ _).drewN q)
end
section
open Go.RowKit
theorem sets_c(w:World)(n k:Int):
 Calls Tryz.prog 178 #[.int .i64 n,.int .i64 k] w fun e w'=>e=.returned (.func (.func 222) #[] #[.pointer (some ⟨w.heap.size+1,0,none⟩),.pointer (some ⟨w.heap.size,0,none⟩)])∧
  w'=(w.alloc (.cells #[.int .i64 n] 3)).alloc (.cells #[.int .i64 k] 3):=by
 have hmf:∀(fn:Fn) (first cap:Array Value) (w:World),(Instr.makeFunc fn first cap).run Tryz.prog w=.ok (.func fn first cap) w:=fun _ _ _ _=>rfl
 go_enter Tryz.func178,Tryz.ntmps178
 go_wp2
 go_ret
 exact⟨by simp,rfl⟩
end
section
open Go.RowKit
attribute [local go_sem] Oper.semAt_some
theorem zFU:∀(m k:Nat) (a:Int),(comb m k a).length<=2 ^ m
 |0,0,a=>Nat.le_refl _
 |m+1,0,a=>Nat.one_le_two_pow
 |0,k+1,a=>by simp[comb]
 |m+1,k+1,a=>by
  simp only[comb,List.length_append,List.length_map]
  have h1:=zFU m k (a+1)
  have h2:=zFU m (k+1) (a+1)
  rw[Nat.pow_succ];omega
theorem ints_row{W:World}{it:Nat}{x:List Int}{sp:List Value}{E:TypeId}(h:W.heap[it]? =some (.cells (x.map (Value.int .i64)++sp).toArray E (0,0))):zAI W (some ⟨it,0,none⟩) x:=by
 intro j hj
 refine⟨it,0,rfl,(Array.getElem?_eq_some_iff.1 h).1,?_⟩
 rw[Nat.zero_add]
 simp[World.cell?,h,List.getElem?_append_left,hj]
end
section
open Go.RowKit
def twoM:Mask:=[[1,1,0],[0,1,1]]
theorem two_rows(w:World):zAM (((w.alloc (.cells #[.int .i64 1,.int .i64 1,.int .i64 0] 3)).alloc (.cells #[.int .i64 0,.int .i64 1,.int .i64 1] 3)).alloc (.cells #[.slice (some ⟨w.heap.size,0,none⟩) 3 3,.slice (some ⟨w.heap.size+1,0,none⟩) 3 3] 24)) (some ⟨w.heap.size+2,0,none⟩) twoM:=by
 obtain⟨w1,h1⟩:=exq (w.alloc (.cells #[.int .i64 1,.int .i64 1,.int .i64 0] 3))
 obtain⟨w2,h2⟩:=exq (w1.alloc (.cells #[.int .i64 0,.int .i64 1,.int .i64 1] 3))
 rw[<- h1,<- h2]
 have s1:w1.heap.size=w.heap.size+1:=by rw[h1];simp
 have s2:w2.heap.size=w.heap.size+2:=by rw[h2];simp[s1]
 have i1:zAI w1 (some ⟨w.heap.size,0,none⟩) [1,1,0]:=fun j hj=>⟨w.heap.size,0,rfl,by omega,by
  rw[h1,World.cell?_alloc_at _ _ _ _ (by simp)]
  match j,hj with
  |0,_=>rfl
  |1,_=>rfl
  |2,_=>rfl⟩
 have i2:zAI w2 (some ⟨w1.heap.size,0,none⟩) [0,1,1]:=fun j hj=>⟨w1.heap.size,0,rfl,by omega,by
  rw[h2,World.cell?_alloc_at _ _ _ _ (by simp)]
  match j,hj with
  |0,_=>rfl
  |1,_=>rfl
  |2,_=>rfl⟩
 rw[s1]at i2
 have b2:Below w1.heap.size w1 w2:=by rw[h2];exact(Below.refl _ _).alloc (Nat.le_refl _) _
 obtain⟨o,ho⟩:=exq (Obj.cells #[.slice (some ⟨w.heap.size,0,none⟩) 3 3,.slice (some ⟨w.heap.size+1,0,none⟩) 3 3] 24)
 rw[<- ho]
 have b3:Below w2.heap.size w2 (w2.alloc o):=(Below.refl _ _).alloc (Nat.le_refl _) _
 have hc:∀j,(w2.alloc o).cell? ⟨w.heap.size+2,j,none⟩=#[Value.slice (some ⟨w.heap.size,0,none⟩) 3 3,.slice (some ⟨w.heap.size+1,0,none⟩) 3 3][j]? :=fun j=>by
  rw[ho,World.cell?_alloc_at _ _ _ _ (by rw[s2])]
 intro j hj
 match j,hj with
 |0,_=>exact⟨_,0,some ⟨w.heap.size,0,none⟩,3,3,rfl,by simp[s2],hc 0,rfl,by decide,(i1.below b2).below b3⟩
 |1,_=>exact⟨_,0,some ⟨w.heap.size+1,0,none⟩,3,3,rfl,by simp[s2],hc 1,rfl,by decide,i2.below b3⟩
end
section
open Go.RowKit
def SomeB(e:Ending):Prop:=∃b,e=.returned (.bool b)
theorem rows_one{W:World}{a2:Option Addr}{n2 cap2:Nat}{h:List Int}(hn2:h.length=n2)(hm2:n2<=maxLen)(H2:zAI W a2 h):
 zAM (W.alloc (.cells #[.slice a2 n2 cap2] 24)) (some ⟨W.heap.size,0,none⟩) [h]:=by
 have hb:Below W.heap.size W (W.alloc (.cells #[.slice a2 n2 cap2] 24)):=(Below.refl _ _).alloc (Nat.le_refl _) _
 intro j hj
 match j,hj with
 |0,_=>exact⟨_,0,a2,n2,cap2,rfl,by simp,by rw[World.cell?_alloc_at _ _ _ _ rfl];rfl,hn2,hm2,H2.below hb⟩
end
end Go.Proofs.YtlffndehhhpgjaaGreat
