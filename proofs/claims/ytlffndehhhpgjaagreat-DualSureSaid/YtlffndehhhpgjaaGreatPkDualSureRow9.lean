/- Walks and plain laws for DualSureRow, part 9. -/
import Derived.Lib.AppendZeros
import Derived.Test.YtlffndehhhpgjaaGreatPkDualSureRow8
namespace Go.Proofs.YtlffndehhhpgjaaGreat
set_option linter.unusedVariables false
set_option linter.unusedSimpArgs false
set_option maxRecDepth 100000
set_option maxHeartbeats 4000000
section
open Go.RowKit
theorem info_int:(Tryz.prog.info? 3).map (fun i=>(i.zero,i.size,i.bytes))=some (some (.int .i64 0),1,8):=by kernel_rfl
theorem listed1(w:World)(b:Nat)(hb:b<w.heap.size)(hc:w.cell? ⟨b,0,none⟩=some (.int .i64 1000000)):zNU Tryz.prog 249 #[.pointer (some ⟨b,0,none⟩)] w (fun n=>inB n (-1000000) 1000000):=by
 intro x W hbw
 have hc':W.cell? ⟨b,0,none⟩=some (.int .i64 1000000):=(hbw.cell (p:=⟨b,0,none⟩) hb).trans hc
 go_enter Tryz.func249,Tryz.ntmps249
 go_wp2_with (go_at_call 142;refine(zFW _ _ _ _).mono ?_;rintro e w1 ⟨rfl,rfl⟩)
 go_ret
 exact⟨rfl,Below.refl _ _⟩
def zCI(M:Mask)(x:List Int):Int:=if okM M=true then(if x.length=zAA M then(if x.all (fun n=>inB n (-1000000) 1000000)=true then 0 else 7)else 9)else 1
def zNB(M:Mask)(x:List Int):Bool:=okM M&&decide (x.length=zAA M)&&x.all (fun n=>inB n (-1000000) 1000000)
theorem okShown_iff(M:Mask)(x:List Int):(zCI M x==0)=zNB M x:=by
 unfold zCI zNB
 cases okM M<;>simp
 by_cases h:x.length=zAA M<;>simp[h]
 split
 ·rename_i h2;simp;exact h2
 ·rename_i h2;simp;simpa using h2
theorem listed_c(w:World)(a:Option Addr)(n cap:Nat)(M:Mask)(hn:M.length=n)(hm:n<=maxLen)(H:zAL w a M)(a2:Option Addr)(n2 cap2:Nat)(x:List Int)(hn2:x.length=n2)(hm2:n2<=maxLen)(H2:zAE w a2 x)
 (g:Nat)(lb:Array Value)(eg:∀args w,(callFunc g args).run Tryz.prog w=.ok (.enter g args) w)(hg:okM M=true->∀W,Below w.heap.size w W->Calls Tryz.prog g lb W fun e W'=>e=.returned (.int .i64 (zAA M))∧W=W'):
 Calls Tryz.prog 214 #[.slice a n cap,.slice a2 n2 cap2,.func (.func g) #[] lb,.int .i64 1000000] w fun e w'=>e=.returned (.int .i64 (zCI M x))∧Below w.heap.size w w':=by
 have hb0:Below w.heap.size w (w.alloc (.cells #[.int .i64 1000000] 3)):=(Below.refl _ _).alloc (Nat.le_refl _) _
 have hmf:∀(fn:Fn) (first cap:Array Value) (w:World),(Instr.makeFunc fn first cap).run Tryz.prog w=.ok (.func fn first cap) w:=fun _ _ _ _=>rfl
 have HV:=hid (zGU (w.alloc (.cells #[.int .i64 1000000] 3)) a n cap M hn hm (H.below hb0))
 have HA:=hid (fun(W:World) (hb:Below w.heap.size w W) (hs:w.heap.size<W.heap.size) (hc:W.cell? ⟨w.heap.size,0,none⟩=some (.int .i64 1000000))=>allI_c W a2 n2 cap2 x hn2 hm2 (H2.below hb) 249 #[.pointer (some ⟨w.heap.size,0,none⟩)] _ (enters_of Tryz.func249 (by kernel_rfl) rfl) (listed1 W w.heap.size hs hc))
 have hcell:∀W,Below (w.alloc (.cells #[.int .i64 1000000] 3)).heap.size (w.alloc (.cells #[.int .i64 1000000] 3)) W->w.heap.size<W.heap.size∧W.cell? ⟨w.heap.size,0,none⟩=some (.int .i64 1000000):=fun W hb=>by
  have h1:=hb.size
  simp at h1
  refine⟨by omega,(hb.cell (p:=⟨w.heap.size,0,none⟩) (by simp)).trans ?_⟩
  rw[World.cell?_alloc_at _ _ _ _ rfl];rfl
 have HC:=hid hcell
 have HN2:=hid hn2
 have HG:=hid hg
 have HB:=hid hb0
 clear hn H H2 hcell hg hn2 hb0
 cases hv:okM M
 ·rw[hv]at HV
  have HE:=hid hv
  clear hv
  go_enter Tryz.func214,Tryz.ntmps214
  go_wp2_with (go_at_call 79;refine HV.out.mono ?_;rintro e w1 ⟨rfl,hb1⟩)
  go_ret
  exact⟨zBP (by unfold zCI;rw[HE.out];simp),zAB HB.out hb1⟩
 ·rw[hv]at HV
  have HE:=hid hv
  have HG2:=hid (HG.out hv)
  clear hv HG
  by_cases h:n2=zAA M
  ·have hd:((n2:Int) !=(zAA M:Int))=false:=by simp[h]
   have HQ:=hid h
   clear h
   cases hx:x.all (fun n=>inB n (-1000000) 1000000)
   all_goals
    rw[hx]at HA
    have HX:=hid hx
    clear hx
    go_enter Tryz.func214,Tryz.ntmps214
    go_wp2_with (first| (go_at_call 79;refine HV.out.mono ?_;rintro e w1 ⟨rfl,hb1⟩)| (go_at_call 204;refine(HA.out _ (zAB HB.out hb1) (HC.out _ hb1).1 (HC.out _ hb1).2).mono ?_;rintro e w2 ⟨rfl,hb2⟩)| (refine(HG2.out _ (zAB HB.out hb1)).mono ?_;rintro e w3 ⟨rfl,rfl⟩))
    go_ret
    exact⟨zBP (by unfold zCI;rw[HE.out,if_pos rfl,if_pos (HN2.out.trans HQ.out),HX.out];simp),zAB (zAB HB.out hb1) hb2⟩
  ·have hd:((n2:Int) !=(zAA M:Int))=true:=by simp;omega
   have HQ:=hid h
   clear h
   go_enter Tryz.func214,Tryz.ntmps214
   go_wp2_with (first| (go_at_call 79;refine HV.out.mono ?_;rintro e w1 ⟨rfl,hb1⟩)| (refine(HG2.out _ (zAB HB.out hb1)).mono ?_;rintro e w3 ⟨rfl,rfl⟩))
   go_ret
   exact⟨zBP (by unfold zCI;rw[HE.out,if_pos rfl,if_neg (by rw[HN2.out];exact HQ.out)]),zAB HB.out hb1⟩
theorem okM_len{M:Mask}(h:okM M=true):1<=M.length∧M.length<=6∧1<=zAA M∧zAA M<=10∧∀l∈M,l.length=zAA M∧∀n∈l,-1<=n∧n<=1:=by
 unfold okM at h
 simp only[Bool.and_eq_true,List.all_eq_true,decide_eq_true_eq]at h
 obtain⟨h1,h2⟩:=h
 simp[inB]at h1
 have hr:∀l∈M,l.length=zAA M∧(1<=l.length∧l.length<=10)∧∀n∈l,-1<=n∧n<=1:=by
  intro l hl
  obtain⟨e,hrow⟩:=h2 l hl
  unfold zFL at hrow
  simp only[Bool.and_eq_true,List.all_eq_true]at hrow
  refine⟨e,?_,fun n hn=>?_⟩
  ·have:=hrow.1;simp[inB]at this;omega
  ·have:=hrow.2 n hn;simpa[inB]using this
 have h0:0<M.length:=by omega
 have hc:=hr M[0] (List.getElem_mem h0)
 refine⟨by omega,by omega,by omega,by omega,fun l hl=>⟨(hr l hl).1,(hr l hl).2.2⟩⟩
theorem shown1(w:World)(b:Nat)(a:Option Addr)(n cap:Nat)(M:Mask)(hn:M.length=n)(hm:n<=maxLen)(H:zAL w a M)(hb:b<w.heap.size)(hc:w.cell? ⟨b,0,none⟩=some (.slice a n cap))(h0:0<n)(W:World)(hbw:Below w.heap.size w W):
 Calls Tryz.prog 215 #[.pointer (some ⟨b,0,none⟩)] W fun e W'=>e=.returned (.int .i64 (zAA M))∧W=W':=by
 have hc':W.cell? ⟨b,0,none⟩=some (.slice a n cap):=(hbw.cell (p:=⟨b,0,none⟩) hb).trans hc
 obtain⟨b',off,qa,qn,qc,rfl,hbs,hq0,hqn,hqm,hqi⟩:=(H.below hbw) 0 (by omega)
 have HCols:zAA M=qn:=by unfold zAA;rw[List.getElem?_eq_getElem (by omega),<- hqn];rfl
 have HCO:=hid HCols
 unfold maxLen at hm
 simp only[Nat.add_zero]at hq0
 clear HCols hqn hqi H hc
 go_enter Tryz.func215,Tryz.ntmps215
 go_wp2
 go_ret
 exact⟨zBP (by rw[HCO.out]),rfl⟩
theorem mshown_c(w:World)(a:Option Addr)(n cap:Nat)(M:Mask)(hn:M.length=n)(hm:n<=maxLen)(H:zAL w a M)(a2:Option Addr)(n2 cap2:Nat)(x:List Int)(hn2:x.length=n2)(hm2:n2<=maxLen)(H2:zAE w a2 x):
 Calls Tryz.prog 164 #[.slice a n cap,.slice a2 n2 cap2] w fun e w'=>e=.returned (.int .i64 (zCI M x))∧Below w.heap.size w w':=by
 have hb0:Below w.heap.size w (w.alloc (.cells #[.slice a n cap] 23)):=(Below.refl _ _).alloc (Nat.le_refl _) _
 have hmf:∀(fn:Fn) (first cap:Array Value) (w:World),(Instr.makeFunc fn first cap).run Tryz.prog w=.ok (.func fn first cap) w:=fun _ _ _ _=>rfl
 have HL:=hid (listed_c (w.alloc (.cells #[.slice a n cap] 23)) a n cap M hn hm (H.below hb0) a2 n2 cap2 x hn2 hm2 (H2.below hb0) 215 #[.pointer (some ⟨w.heap.size,0,none⟩)] (enters_of Tryz.func215 (by kernel_rfl) rfl)
  (fun hk W hb=>by
    have:=okM_len hk
    exact shown1 _ w.heap.size a n cap M hn hm (H.below hb0) (by simp) (by rw[World.cell?_alloc_at _ _ _ _ rfl];rfl) (by omega) W hb))
 clear hn H hn2 H2
 go_enter Tryz.func164,Tryz.ntmps164
 go_wp2_with (go_at_call 214;refine HL.out.mono ?_;rintro e w1 ⟨rfl,hb1⟩)
 go_ret
 exact⟨rfl,zAB hb0 hb1⟩
def dotTo(row x:List Int):Nat->Int
 |0=>0
 |k+1=>wrap64 (dotTo row x k+wrap64 (row[k]?.getD 0*x[k]?.getD 0))
def dotW(row x:List Int):Int:=dotTo row x row.length
theorem times_c(w:World)(a a2:Option Addr)(n cap n2 cap2:Nat)(row x:List Int)(hn:row.length=n)(hn2:x.length=n2)(hle:n<=n2)(hm:n<=maxLen)(H:zAE w a row)(H2:zAE w a2 x):
 Calls Tryz.prog 165 #[.slice a n cap,.slice a2 n2 cap2] w fun e w'=>e=.returned (.int .i64 (dotW row x))∧w=w':=by
 have HN:=hid hn
 have HN2:=hid hn2
 have HH:=hid H
 have HH2:=hid H2
 clear hn hn2 H H2
 unfold maxLen at hm
 go_enter Tryz.func165,Tryz.ntmps165
 go_wp2
 go_loop [5,10] (fun s i=>∃k:Nat,k<=n∧i=.int .i64 k∧s=.int .i64 (dotTo row x k)) (fun _ i=>n-(intOf i).toNat)
 case atStart=>exact⟨0,Nat.zero_le _,rfl,rfl⟩
 case round=>
  obtain⟨k,hk,rfl,rfl⟩:=hrel
  by_cases hlt:k<n
  ·obtain⟨b,off,rfl,_,h1⟩:=HH.out k (by rw[HN.out];exact hlt)
   obtain⟨b2,off2,rfl,_,h2⟩:=HH2.out k (by rw[HN2.out];omega)
   have h3:k<n2:=by omega
   go_wp2
   go_round
   case rel=>exact⟨k+1,by omega,by go_num,rfl⟩
   case measure=>simp[intOf];omega
  ·have:k=n:=by omega
   subst this
   go_wp2
   go_ret
   refine⟨zBP ?_,rfl⟩
   unfold dotW;rw[HN.out]
def readM(M:Mask)(x:List Int):List Int:=M.map (fun r=>dotW r x)
theorem readM_take(M:Mask)(x:List Int)(k:Nat)(hk:k<M.length):(readM (M.take (k+1)) x)=readM (M.take k) x++[dotW M[k] x]:=by
 unfold readM
 rw[List.take_succ_eq_append_getElem hk,List.map_append];rfl
theorem one_int(x:Int):∀u∈[Value.int .i64 x],u.oneCell'=true:=by intro u hu;simp at hu;subst hu;rfl
theorem maskRead_c(w:World)(a:Option Addr)(n cap:Nat)(M:Mask)(hn:M.length=n)(hm:n<=maxLen)(H:zAL w a M)(a2:Option Addr)(n2 cap2:Nat)(x:List Int)(hn2:x.length=n2)(hm2:n2<=maxLen)(H2:zAE w a2 x)(hE:zCI M x=0):
 Calls Tryz.prog 104 #[.slice a n cap,.slice a2 n2 cap2] w fun e w'=>∃v base,e=.returned (.tuple #[v,.int .i64 0])∧w.heap.size<=base∧w'.ownsRow base 3 1 v n ((readM M x).map (Value.int .i64))∧Below w.heap.size w w':=by
 have HS:=hid (mshown_c w a n cap M hn hm H a2 n2 cap2 x hn2 hm2 H2)
 rw[hE]at HS
 have hok:zNB M x=true:=by rw[<- okShown_iff,hE];rfl
 unfold zNB at hok
 simp only[Bool.and_eq_true,decide_eq_true_eq]at hok
 obtain⟨⟨hM,hc⟩,_⟩:=hok
 obtain⟨m1,m6,c1,c10,hrows⟩:=okM_len hM
 have hn6:n<=6:=by omega
 have HT:=hid (fun(W:World) (hb:Below w.heap.size w W) (ra:Option Addr) (rn rc:Nat) (r:List Int) (hr:r∈M) (hrn:r.length=rn) (hri:zAE W ra r)=>times_c W ra a2 rn rc n2 cap2 r x hrn hn2 (by have:=(hrows r hr).1;omega) (by have:=(hrows r hr).1;unfold maxLen;omega) hri (H2.below hb))
 have HN:=hid hn
 have HH:=hid H
 clear hn H hn2 H2 hrows hE hM hc m1 m6 c1 c10
 go_enter Tryz.func104,Tryz.ntmps104
 go_wp2_with (go_at_call 164;refine HS.out.mono ?_;rintro e w1 ⟨rfl,hb1⟩)
 go_loopw [7,18] (fun v i wr=>∃k:Nat,k<=n∧i=.int .i64 k∧wr.ownsRow w1.heap.size 3 1 v k ((readM (M.take k) x).map (Value.int .i64))∧Below w1.heap.size w1 wr) (fun _ i _=>n-(intOf i).toNat)
 case atStart=>exact⟨0,Nat.zero_le _,rfl,World.ownsRow_nil _ _ _ _,Below.refl _ _⟩
 case round=>
  obtain⟨k,hk,rfl,hown,hbk⟩:=hrel
  by_cases hlt:k<n
  ·have hkM:k<M.length:=by rw[HN.out];exact hlt
   have hbw:=zAB hb1 hbk
   obtain⟨b,off,ra,rn,rc,rfl,hbs,hq0,hrn,hrm,hri⟩:=(HH.out.below hbw) k hkM
   have HT1:=hid (HT.out wr hbw ra rn rc M[k] (List.getElem_mem hkM) hrn hri)
   obtain⟨D,hD⟩:=exq (dotW M[k] x)
   rw[<- hD]at HT1
   have htk:=readM_take M x k hkM
   rw[<- hD]at htk
   have HTK:=hid htk
   obtain⟨va,vc,rfl⟩:=zAH hown
   have HO:=hid hown
   have M1:=hid (show k+1<=maxLen by unfold maxLen;omega)
   have M2:=hid (show(k+1)*8<=140737488355328 by omega)
   have M3:=hid (Nat.le_trans hbk.size (zCV wr (.cells #[.int .i64 D] 3)))
   clear hown htk hD hrn hri hkM
   go_wp2_with (first| (go_at_call 165;refine HT1.out.mono ?_;rintro e w2 ⟨rfl,rfl⟩)| (at_builtin;refine zBN _ rfl (.tmp 22) (.tmp 26) 24 rfl w1.heap.size 3 (.int .i64 0) 1 8 Tryz.underlying24 info_int rfl Nat.one_pos (.slice va k vc) k _ rfl (HO.out.alloc _) (some ⟨wr.heap.size,0,none⟩) 1 1 [.int .i64 D] rfl rfl zDM (zDG wr _ _) (one_int _) M1.out M2.out M3.out ?_;refine Stop.of ?_))
   refine Stop.go ?_
   intro a3 c3 w3 own3 g3
   have hB3:Below w1.heap.size w1 w3:=(hbk.alloc hbk.size _).grown g3 (Nat.le_trans hbk.size (zCV _ _)) (fun k hk=>(HO.out.lt k hk).1)
   go_wp2
   refine⟨⟨k+1,by omega,by go_num,?_,hB3⟩,by simp[intOf];omega⟩
   rw[HTK.out]
   simpa using own3
  ·obtain rfl:k=n:=by omega
   go_wp2
   go_ret2
   refine⟨_,w1.heap.size,rfl,hb1.size,?_,zAB hb1 hbk⟩
   rw[<- HN.out,List.take_length]at hown
   rw[HN.out]at hown
   exact hown
end
section
open Go.RowKit
theorem dotTo_sm{row x:List Int}(h1:BndL 67108864 row)(h2:BndL 67108864 x):∀k:Nat,k<=1000->dotTo row x k=sm (fun c=>vec row c*vec x c) k
 |0,_=>by simp[dotTo,sm]
 |k+1,hk=>by
  have ih:=dotTo_sm h1 h2 k (by omega)
  have hb:=dot_le h1 h2 (k+1)
  have hb0:=dot_le h1 h2 k
  simp only[dotTo,sm]at hb⊢
  rw[ih]
  have e1:row[k]?.getD 0=vec row k:=rfl
  have e2:x[k]?.getD 0=vec x k:=rfl
  rw[e1,e2]
  have hp:(vec row k*vec x k).natAbs<=4503599627370496+4503599627370496*1001+4503599627370496*1001:=by omega
  have hw:wrap64 (vec row k*vec x k)=vec row k*vec x k:=by unfold wrap64;omega
  rw[hw]
  unfold wrap64;omega
theorem dotW_dotV{row x:List Int}(h1:BndL 67108864 row)(h2:BndL 67108864 x)(hl:row.length<=1000):dotW row x=dotV row x:=dotTo_sm h1 h2 _ hl
end
section
open Go.RowKit
def picB(M:Mask)(x:List Int):Bool:=decide (x.length=zAA M)&&x.all (fun n=>inB n (-1000) 1000)
end
section
open Go.RowKit
abbrev Frm:=Bool×List Int
def zNV(w:World)(a:Option Addr)(fs:List Frm):Prop:=
 ∀j (hj:j<fs.length),∃b off ra n cap,a=some ⟨b,off,none⟩∧b<w.heap.size∧w.cell? ⟨b,off+j*2,none⟩=some (.bool fs[j].1)∧w.cell? ⟨b,off+j*2+1,none⟩=some (.slice ra n cap)∧fs[j].2.length=n∧n<=maxLen∧zAE w ra fs[j].2
theorem zNV.below{w w':World}{a:Option Addr}{l:List Frm}(h:zNV w a l)(hb:Below w.heap.size w w'):zNV w' a l:=by
 intro j hj
 obtain⟨b,off,ra,n,cap,e,hlt,h0,h1,hn,hm,hi⟩:=h j hj
 exact⟨b,off,ra,n,cap,e,Nat.lt_of_lt_of_le hlt hb.size,(hb.cell (p:=⟨b,_,none⟩) hlt).trans h0,(hb.cell (p:=⟨b,_,none⟩) hlt).trans h1,hn,hm,hi.below hb⟩
end
section
open Go.RowKit
def FrmV(w:World)(v:Value)(f:Frm):Prop:=∃ra n cap,v=.agg #[.bool f.1,.slice ra n cap]∧f.2.length=n∧n<=maxLen∧zAE w ra f.2
theorem FrmV.below{w w':World}{v:Value}{f:Frm}(h:FrmV w v f)(hb:Below w.heap.size w w'):FrmV w' v f:=by
 obtain⟨ra,n,cap,e,hn,hm,hi⟩:=h
 exact⟨ra,n,cap,e,hn,hm,hi.below hb⟩
end
section
open Go.RowKit
def addF(r b:List Int):List Int:=(List.range r.length).map (fun i=>vec r i+vec b i)
def wholeV(M:Mask)(y:List Int)(k:Int):Option (List Int):=if zFE M y k=0 then(match wholeF M y k.toNat with| [r]=>some r|_=>none)else none
def nextF(M:Mask)(k:Int)(before:Option (List Int))(f:Frm):Option (List Int):=
 if f.2.length=0 then none else if f.1=true then some f.2 else
  match before with
  |none=>none
  |some b=>match wholeV M f.2 k with
   |none=>none
   |some r=>if picB M (addF r b)=true then some (addF r b)else none
def decAt(M:Mask)(k:Int)(fs:List Frm):Nat->Option (List Int)
 |0=>none
 |j+1=>nextF M k (decAt M k fs j) (fs[j]?.getD (false,[]))
theorem readM_V{M:Mask}{x:List Int}(hM:okM M=true)(hx:BndL 67108864 x):readM M x=zCZ M x:=by
 obtain⟨h,_,_,_,h10⟩:=zCN hM
 unfold readM zCZ
 apply List.map_congr_left
 intro r hr
 refine dotW_dotV (fun v hv=>?_) hx (by rw[h.wid r hr];omega)
 obtain⟨i,hi,rfl⟩:=List.getElem_of_mem hv
 have:=h.one r hr i
 rw[zCS hi]at this
 omega
end
section
open Go.RowKit
theorem AnyT.next2{P:Program}{md:Region.Mode}{ops:Array Oper}{Q:Exit->Act->World->Prop}{T:Nat->World->Prop}{i j:Nat}{fuel:Nat}{listed:Array Bool}{a:Act}{w:World}(hr:Region.ready md ops listed=[i,j])
 (h1:wpOp P ops Q i (fun a' w'=>T i w'∧AnyT P md ops Q T fuel (listed.setIfInBounds i true) a' w') a w)
 (h2:wpOp P ops Q j (fun a' w'=>T j w'∧AnyT P md ops Q T fuel (listed.setIfInBounds j true) a' w') a w):AnyT P md ops Q T (fuel+1) listed a w:=
 ⟨fun h0=>(by rw[hr]at h0;cases h0),fun k hk=>by
   rw[hr]at hk
   have:k=i∨k=j:=by simpa using hk
   rcases this with rfl|rfl
   ·exact h1
   ·exact h2⟩
end
section
open Go.RowKit
def zEW(W:World)(base:Nat)(v:Value)(l:List Rt):Prop:=
 ∃a n cap,v=.slice a n cap∧l.length=n∧n<=maxLen∧∀j (hj:j<l.length),∃b off,a=some ⟨b,off,none⟩∧b<W.heap.size∧(b<base∨∃c f,W.heap[b]? =some (.cells c 29 f))∧
  W.cell? ⟨b,off+j*2,none⟩=some (.int .i64 l[j].1)∧W.cell? ⟨b,off+j*2+1,none⟩=some (.int .i64 l[j].2)
theorem zEW.keep{W W':World}{base:Nat}{T:Nat->Prop}{v:Value}{l:List Rt}(h:zEW W base v l)(hk:Keep T W W')(hT:∀b,b<W.heap.size->(b<base∨∃c f,W.heap[b]? =some (.cells c 29 f))->T b):zEW W' base v l:=by
 obtain⟨a,n,cap,e,hn,hm,hj⟩:=h
 refine⟨a,n,cap,e,hn,hm,fun j hlt=>?_⟩
 obtain⟨b,off,e,hb,hty,h0,h1⟩:=hj j hlt
 have ht:=hT b hb hty
 refine⟨b,off,e,Nat.lt_of_lt_of_le hb hk.size,?_,hk.cell h0 ht,hk.cell h1 ht⟩
 rcases hty with h|⟨c,f,h⟩
 ·exact .inl h
 ·exact .inr ⟨c,f,(hk.block b hb ht).trans h⟩
theorem zEW.below{W W':World}{base:Nat}{v:Value}{l:List Rt}(h:zEW W base v l)(hb:Below W.heap.size W W'):zEW W' base v l:=h.keep (Keep.of_below hb:Keep (fun _=>True) _ _) (fun _ _ _=>trivial)
theorem zEW.own{W:World}{base b0:Nat}{v:Value}{l:List Rt}(h:zEM W b0 v l):zEW W base v l:=by
 rcases h.2 with⟨rfl,h0⟩|⟨g,cap,cur,rfl,hbg,hgg,hnc,hcm,hsz,htk⟩
 ·exact⟨none,0,0,rfl,h0,by decide,fun j hj=>by omega⟩
 ·refine⟨_,_,cap,rfl,rfl,by omega,fun j hj=>⟨g,0,rfl,(Array.getElem?_eq_some_iff.1 hgg).1,.inr ⟨cur,_,hgg⟩,?_⟩⟩
  have hc:∀i,i<l.length*2->W.cell? ⟨g,i,none⟩=(zAK l)[i]? :=fun i hi=>
   World.ownsRow.cellAt (w:=W) (base:=b0) (e:=29) (size:=2) (g:=g) (n:=l.length) (cap:=cap) (xs:=zAK l) ⟨h.1,.inr ⟨g,cap,cur,rfl,hbg,hgg,hnc,hcm,hsz,htk⟩⟩ i hi
  refine⟨?_,?_⟩
  ·rw[Nat.zero_add,hc _ (by omega)];exact zEB l j 0 hj (by omega)
  ·rw[Nat.zero_add,hc _ (by omega)];exact zEB l j 1 hj (by omega)
theorem zEW.rats{W:World}{base n cap:Nat}{a:Option Addr}{l:List Rt}(h:zEW W base (.slice a n cap) l):l.length=n∧n<=maxLen∧zBX W a l:=by
 obtain⟨a',n',cap',e,hn,hm,hj⟩:=h
 cases e
 exact⟨hn,hm,fun j hlt=>by obtain⟨b,off,e,hb,_,h0,h1⟩:=hj j hlt;exact⟨b,off,e,hb,h0,h1⟩⟩
end
section
open Go.RowKit
def zMO(w:World)(a:Option Addr)(ls:List (List Rt)):Prop:=
 ∀j (hj:j<ls.length),∃b off ra n cap,a=some ⟨b,off,none⟩∧b<w.heap.size∧w.cell? ⟨b,off+j,none⟩=some (.slice ra n cap)∧ls[j].length=n∧n<=maxLen∧zBX w ra ls[j]
theorem zMO.below{w w':World}{a:Option Addr}{l:List (List Rt)}(h:zMO w a l)(hb:Below w.heap.size w w'):zMO w' a l:=by
 intro j hj
 obtain⟨b,off,ra,n,cap,e,hlt,h0,hn,hm,hi⟩:=h j hj
 exact⟨b,off,ra,n,cap,e,Nat.lt_of_lt_of_le hlt hb.size,(hb.cell (p:=⟨b,_,none⟩) hlt).trans h0,hn,hm,hi.below hb⟩
def TabQ(W:World)(base:Nat)(v:Value)(L:List (List Rt)):Prop:=
 ∃vs,W.ownsRow base 42 1 v L.length vs∧∀j (hj:j<L.length),∃u,vs[j]? =some u∧zEW W base u L[j]
theorem TabQ.nil(W:World)(base:Nat):TabQ W base (.slice none 0 0) []:=⟨[],World.ownsRow_nil _ _ _ _,fun j hj=>by simp at hj⟩
theorem TabQ.below{W W':World}{base:Nat}{v:Value}{L:List (List Rt)}(h:TabQ W base v L)(hb:Below W.heap.size W W'):TabQ W' base v L:=by
 obtain⟨vs,h1,h2⟩:=h
 refine⟨vs,zBQ h1 hb,fun j hj=>?_⟩
 obtain⟨u,hu,hr⟩:=h2 j hj
 exact⟨u,hu,hr.below hb⟩
theorem TabQ.slice{W:World}{base:Nat}{v:Value}{L:List (List Rt)}(h:TabQ W base v L):∃a c,v=.slice a L.length c:=by
 obtain⟨vs,h1,_⟩:=h;exact zAH h1
theorem TabQ.reads{W:World}{base n c:Nat}{a:Option Addr}{L:List (List Rt)}(h:TabQ W base (.slice a n c) L):L.length=n∧n<=maxLen∧zMO W a L:=by
 obtain⟨vs,h1,h2⟩:=h
 rcases h1.2 with⟨e,h0⟩|⟨g,cap,cur,e,hbg,hgg,hnc,hcm,hsz,htk⟩
 ·cases e
  exact⟨h0,by unfold maxLen;omega,fun j hj=>by omega⟩
 ·cases e
  refine⟨rfl,by omega,fun j hj=>?_⟩
  obtain⟨u,hu,hel⟩:=h2 j hj
  have hc:=World.ownsRow.cellAt (w:=W) (base:=base) (e:=42) (size:=1) (g:=g) (n:=L.length) (cap:=c) (xs:=vs) h1 j (by omega)
  obtain⟨a',n',cap',rfl,_⟩:=id hel
  obtain⟨h3,h4,h5⟩:=hel.rats
  exact⟨g,0,a',n',cap',rfl,(Array.getElem?_eq_some_iff.1 hgg).1,by rw[Nat.zero_add,hc,hu],h3,h4,h5⟩
theorem TabQ.snoc{W w1 w3:World}{base:Nat}{v v' u:Value}{L:List (List Rt)}{r:List Rt}{vs:List Value}(h1:W.ownsRow base 42 1 v L.length vs)
 (h2:∀j (hj:j<L.length),∃u,vs[j]? =some u∧zEW W base u L[j])(hb:Below W.heap.size W w1)(hr:zEW w1 base u r)(hg:w1.grownBy w3 v.ownBlock)
 (ho':w3.ownsRow base 42 1 v' (L.length+1) (vs++[u])):TabQ w3 base v' (L++[r]):=by
 have hlen:vs.length=L.length:=by have:=h1.1;omega
 have hup:∀u l,zEW w1 base u l->zEW w3 base u l:=fun u l h=>h.keep (T:=fun b=>b<w1.heap.size∧(b<base∨∃c f,w1.heap[b]? =some (.cells c 29 f))) ⟨hg.os,hg.tape,hg.output,hg.size,fun k hk hT=>hg.block k hk (by
  rcases h1.2 with⟨rfl,_⟩|⟨g,cap,cur,rfl,hbg,hgg,_⟩
  ·simp[Value.ownBlock]
  ·intro e
   obtain rfl:k=g:=by simpa[Value.ownBlock]using e
   have hgg':=(hb.block k (Array.getElem?_eq_some_iff.1 hgg).1).trans hgg
   rcases hT.2 with h|⟨c,f,h⟩
   ·omega
   ·rw[h]at hgg';cases hgg')⟩ fun b hb hty=>⟨hb,hty⟩
 refine⟨vs++[u],by simpa using ho',fun j hj=>?_⟩
 simp only[List.length_append,List.length_cons,List.length_nil,Nat.zero_add]at hj
 by_cases hjl:j<L.length
 ·obtain⟨u',hu',hr'⟩:=h2 j hjl
  rw[List.getElem_append_left hjl]
  exact⟨u',by rw[List.getElem?_append_left (by omega)];exact hu',hup _ _ (hr'.below hb)⟩
 ·obtain rfl:j=L.length:=by omega
  rw[List.getElem_append_right (Nat.le_refl _)]
  simp only[Nat.sub_self,List.getElem_cons_zero]
  exact⟨u,by rw[List.getElem?_append_right (by omega),hlen];simp,hup _ _ hr⟩
end
section
open Go.RowKit
theorem info_fit:(Tryz.prog.info? 73).map (fun i=>(i.zero,i.size,i.bytes))=some (some (.agg #[.slice none 0 0,.slice none 0 0]),2,48):=by kernel_rfl
def zNW(W:World)(base:Nat)(v:Value)(T:List FitT):Prop:=
 ∃xs,W.ownsRow base 73 2 v T.length xs∧∀j (hj:j<T.length),∃us ur,xs[j*2]? =some us∧xs[j*2+1]? =some ur∧zFP 3 W base (fun _=>True) us T[j].1∧zEW W base ur T[j].2
theorem zNW.nil(W:World)(base:Nat):zNW W base (.slice none 0 0) []:=⟨[],World.ownsRow_nil _ _ _ _,fun j hj=>by simp at hj⟩
theorem zNW.below{W W':World}{base:Nat}{v:Value}{T:List FitT}(h:zNW W base v T)(hb:Below W.heap.size W W'):zNW W' base v T:=by
 obtain⟨xs,ho,he⟩:=h
 refine⟨xs,zBQ ho hb,fun j hj=>?_⟩
 obtain⟨us,ur,h1,h2,h3,h4⟩:=he j hj
 exact⟨us,ur,h1,h2,h3.keep (Keep.of_below hb:Keep (fun _=>True) _ _) (fun _ _ _ _=>trivial),h4.below hb⟩
theorem zNW.slice{W:World}{base:Nat}{v:Value}{T:List FitT}(h:zNW W base v T):∃a c,v=.slice a T.length c:=by
 obtain⟨xs,ho,_⟩:=h;exact zAH ho
def zII(w:World)(a:Option Addr)(T:List FitT):Prop:=
 ∀j (hj:j<T.length),∃b off pa pn pc va vn vc,a=some ⟨b,off,none⟩∧b<w.heap.size∧w.cell? ⟨b,off+j*2,none⟩=some (.slice pa pn pc)∧w.cell? ⟨b,off+j*2+1,none⟩=some (.slice va vn vc)∧
  T[j].1.length=pn∧pn<=maxLen∧zAE w pa T[j].1∧T[j].2.length=vn∧vn<=maxLen∧zBX w va T[j].2
theorem zII.below{w w':World}{a:Option Addr}{T:List FitT}(h:zII w a T)(hb:Below w.heap.size w w'):zII w' a T:=by
 intro j hj
 obtain⟨b,off,pa,pn,pc,va,vn,vc,e,hlt,h0,h1,h2,h3,h4,h5,h6,h7⟩:=h j hj
 exact⟨b,off,pa,pn,pc,va,vn,vc,e,Nat.lt_of_lt_of_le hlt hb.size,(hb.cell (p:=⟨b,_,none⟩) hlt).trans h0,(hb.cell (p:=⟨b,_,none⟩) hlt).trans h1,h2,h3,h4.below hb,h5,h6,h7.below hb⟩
theorem zNW.snoc{W w1 w2:World}{base:Nat}{v v' us ur:Value}{T:List FitT}{t:FitT}{xs:List Value}
 (ho:W.ownsRow base 73 2 v T.length xs)(he:∀j (hj:j<T.length),∃us ur,xs[j*2]? =some us∧xs[j*2+1]? =some ur∧zFP 3 W base (fun _=>True) us T[j].1∧zEW W base ur T[j].2)
 (h1:zFP 3 W base (fun _=>True) us t.1)(h2:zEW W base ur t.2)
 (hW1:Below W.heap.size W w1)(hg:w1.grownBy w2 v.ownBlock)(ho':w2.ownsRow base 73 2 v' (T.length+1) (xs++[us,ur])):zNW w2 base v' (T++[t]):=by
 have hlen:xs.length=T.length*2:=ho.1
 have hgb:∀(E:TypeId),E≠73->∀b,(b<base∨∃c f,W.heap[b]? =some (.cells c E f))->b<W.heap.size->w2.heap[b]? =W.heap[b]? :=by
  intro E hE b hty hb
  refine(hg.block b (Nat.lt_of_lt_of_le hb hW1.size) ?_).trans (hW1.block b hb)
  rcases ho.2 with⟨rfl,_⟩|⟨g,cap,cur,rfl,hbg,hgg,_⟩
  ·simp[Value.ownBlock]
  ·intro e
   obtain rfl:b=g:=by simpa[Value.ownBlock]using e
   rcases hty with h|⟨c,f,h⟩
   ·omega
   ·rw[h]at hgg;cases hgg;exact hE rfl
 have hel:∀u l,zFP 3 W base (fun _=>True) u l->zFP 3 w2 base (fun _=>True) u l:=by
  intro u l h
  refine h.keep (T:=fun b=>b<W.heap.size∧(b<base∨∃c f,W.heap[b]? =some (.cells c 3 f))) ⟨hg.os.trans hW1.os,hg.tape.trans hW1.tape,hg.output.trans hW1.output,Nat.le_trans hW1.size hg.size,fun k hk hT=>hgb 3 (by decide) k hT.2 hk⟩ fun b _ hb hty=>⟨hb,hty⟩
 have heq:∀u l,zEW W base u l->zEW w2 base u l:=by
  intro u l h
  refine h.keep (T:=fun b=>b<W.heap.size∧(b<base∨∃c f,W.heap[b]? =some (.cells c 29 f))) ⟨hg.os.trans hW1.os,hg.tape.trans hW1.tape,hg.output.trans hW1.output,Nat.le_trans hW1.size hg.size,fun k hk hT=>hgb 29 (by decide) k hT.2 hk⟩ fun b hb hty=>⟨hb,hty⟩
 refine⟨xs++[us,ur],by rw[List.length_append];exact ho',fun j hj=>?_⟩
 by_cases e:j<T.length
 ·obtain⟨us',ur',k1,k2,k3,k4⟩:=he j e
  refine⟨us',ur',by rw[List.getElem?_append_left (by omega)];exact k1,by rw[List.getElem?_append_left (by omega)];exact k2,?_,?_⟩
  ·rw[List.getElem_append_left e];exact hel _ _ k3
  ·rw[List.getElem_append_left e];exact heq _ _ k4
 ·have:j=T.length:=by simp at hj;omega
  subst this
  refine⟨us,ur,by rw[List.getElem?_append_right (by omega),hlen];simp,by rw[List.getElem?_append_right (by omega),hlen,show T.length*2+1-T.length*2=1 by omega];rfl,?_,?_⟩
  ·simp only[List.getElem_append_right (Nat.le_refl _),Nat.sub_self,List.getElem_cons_zero];exact hel _ _ h1
  ·simp only[List.getElem_append_right (Nat.le_refl _),Nat.sub_self,List.getElem_cons_zero];exact heq _ _ h2
def allF(M:Mask)(y:List Int):List FitT:=(allS (zAA M)).filterMap (fitF M y)
end
section
open Go.RowKit
def FitC(W:World)(S:Nat->Prop)(us ur:Value)(f:FitT):Prop:=
 ∃pa pn pc va vn vc,us=.slice pa pn pc∧ur=.slice va vn vc∧f.1.length=pn∧f.2.length=vn∧pn<=maxLen∧vn<=maxLen∧zAE W pa f.1∧zBX W va f.2∧
  (∀b o,pa=some ⟨b,o,none⟩->S b∧b<W.heap.size∧∃c z,W.heap[b]? =some (.cells c 3 z))∧(∀b o,va=some ⟨b,o,none⟩->S b∧b<W.heap.size∧∃c z,W.heap[b]? =some (.cells c 29 z))
theorem FitC.keep{W W':World}{S S' K:Nat->Prop}{us ur:Value}{f:FitT}(h:FitC W S us ur f)(hk:Keep K W W')(hS:∀b,S b->b<W.heap.size->(∃c T z,(T=3∨T=29)∧W.heap[b]? =some (.cells c T z))->K b∧S' b):FitC W' S' us ur f:=by
 obtain⟨pa,pn,pc,va,vn,vc,e1,e2,h1,h2,h3,h4,h5,h6,h7,h8⟩:=h
 have s7:∀b o,pa=some ⟨b,o,none⟩->K b∧S' b:=fun b o e=>by obtain⟨g1,g2,c,z,g3⟩:=h7 b o e;exact hS b g1 g2 ⟨c,_,z,.inl rfl,g3⟩
 have s8:∀b o,va=some ⟨b,o,none⟩->K b∧S' b:=fun b o e=>by obtain⟨g1,g2,c,z,g3⟩:=h8 b o e;exact hS b g1 g2 ⟨c,_,z,.inr rfl,g3⟩
 refine⟨pa,pn,pc,va,vn,vc,e1,e2,h1,h2,h3,h4,fun j hj=>?_,fun j hj=>?_,fun b o e=>?_,fun b o e=>?_⟩
 ·obtain⟨b,o,e,hlt,hc⟩:=h5 j hj
  exact⟨b,o,e,Nat.lt_of_lt_of_le hlt hk.size,hk.cell hc (s7 b o e).1⟩
 ·obtain⟨b,o,e,hlt,hc,hd⟩:=h6 j hj
  exact⟨b,o,e,Nat.lt_of_lt_of_le hlt hk.size,hk.cell hc (s8 b o e).1,hk.cell hd (s8 b o e).1⟩
 ·obtain⟨g1,g2,c,z,g3⟩:=h7 b o e
  exact⟨(s7 b o e).2,Nat.lt_of_lt_of_le g2 hk.size,c,z,(hk.block b g2 (s7 b o e).1).trans g3⟩
 ·obtain⟨g1,g2,c,z,g3⟩:=h8 b o e
  exact⟨(s8 b o e).2,Nat.lt_of_lt_of_le g2 hk.size,c,z,(hk.block b g2 (s8 b o e).1).trans g3⟩
def zCL(W:World)(base:Nat)(S:Nat->Prop)(v:Value)(T:List FitT):Prop:=
 ∃xs,W.ownsRow base 73 2 v T.length xs∧(∀k,v.ownBlock=some k->S k)∧∀j (hj:j<T.length),∃us ur,xs[j*2]? =some us∧xs[j*2+1]? =some ur∧FitC W S us ur T[j]
theorem zCL.nil(W:World)(base:Nat)(S:Nat->Prop):zCL W base S (.slice none 0 0) []:=⟨[],World.ownsRow_nil _ _ _ _,fun k hk=>by simp[Value.ownBlock]at hk,fun j hj=>by simp at hj⟩
theorem zCL.slice{W:World}{base:Nat}{S:Nat->Prop}{v:Value}{T:List FitT}(h:zCL W base S v T):∃a c,v=.slice a T.length c:=by
 obtain⟨xs,ho,_⟩:=h;exact zAH ho
theorem zCL.keep{W W':World}{base:Nat}{S S' K:Nat->Prop}{v:Value}{T:List FitT}(h:zCL W base S v T)(hk:Keep K W W')(hS:∀b,S b->b<W.heap.size->K b∧S' b):zCL W' base S' v T:=by
 obtain⟨xs,ho,hg,he⟩:=h
 refine⟨xs,⟨ho.1,?_⟩,fun k hk'=>?_,fun j hj=>?_⟩
 ·rcases ho.2 with hn|⟨g,cap,cur,rfl,hb,hgg,rest⟩
  ·exact .inl hn
  ·have hlt:=(Array.getElem?_eq_some_iff.1 hgg).1
   exact .inr ⟨g,cap,cur,rfl,hb,(hk.block g hlt (hS g (hg g rfl) hlt).1).trans hgg,rest⟩
 ·rcases ho.2 with⟨rfl,_⟩|⟨g,cap,cur,rfl,hb,hgg,rest⟩
  ·simp[Value.ownBlock]at hk'
  ·obtain rfl:g=k:=by simpa[Value.ownBlock]using hk'
   exact(hS g (hg g rfl) (Array.getElem?_eq_some_iff.1 hgg).1).2
 ·obtain⟨us,ur,h1,h2,h3⟩:=he j hj
  exact⟨us,ur,h1,h2,h3.keep hk fun b hb hlt _=>hS b hb hlt⟩
theorem zCL.below{W W':World}{base:Nat}{S:Nat->Prop}{v:Value}{T:List FitT}(h:zCL W base S v T)(hb:Below W.heap.size W W'):zCL W' base S v T:=
 h.keep (Keep.of_below hb:Keep (fun _=>True) _ _) (fun _ h _=>⟨trivial,h⟩)
theorem zCL.snoc{W w1 w2:World}{base:Nat}{S:Nat->Prop}{v v' us ur:Value}{T:List FitT}{t:FitT}{xs:List Value}
 (ho:W.ownsRow base 73 2 v T.length xs)(he:∀j (hj:j<T.length),∃us ur,xs[j*2]? =some us∧xs[j*2+1]? =some ur∧FitC W S us ur T[j])(h1:FitC W S us ur t)
 (hW1:Below W.heap.size W w1)(hg:w1.grownBy w2 v.ownBlock)(ho':w2.ownsRow base 73 2 v' (T.length+1) (xs++[us,ur]))(hS':∀k,v'.ownBlock=some k->S k):zCL w2 base S v' (T++[t]):=by
 have hlen:xs.length=T.length*2:=ho.1
 have hk:Keep (fun b=>some b≠v.ownBlock) W w2:=(Keep.of_below hW1).trans (Keep.grown hg)
 have hel:∀us ur f,FitC W S us ur f->FitC w2 S us ur f:=fun us ur f h=>h.keep hk fun b hb hlt ⟨c,E,z,hE,hh⟩=>by
  refine⟨?_,hb⟩
  rcases ho.2 with⟨rfl,_⟩|⟨g,cap,cur,rfl,hbg,hgg,_⟩
  ·simp[Value.ownBlock]
  ·intro e
   obtain rfl:b=g:=by simpa[Value.ownBlock]using e
   rw[hh]at hgg
   cases hgg
   rcases hE with h|h
   ·exact absurd h (by decide)
   ·exact absurd h (by decide)
 refine⟨xs++[us,ur],by rw[List.length_append];exact ho',hS',fun j hj=>?_⟩
 by_cases e:j<T.length
 ·obtain⟨us',ur',k1,k2,k3⟩:=he j e
  refine⟨us',ur',by rw[List.getElem?_append_left (by omega)];exact k1,by rw[List.getElem?_append_left (by omega)];exact k2,?_⟩
  rw[List.getElem_append_left e];exact hel _ _ _ k3
 ·have:j=T.length:=by simp at hj;omega
  subst this
  refine⟨us,ur,by rw[List.getElem?_append_right (by omega),hlen];simp,by rw[List.getElem?_append_right (by omega),hlen,show T.length*2+1-T.length*2=1 by omega];rfl,?_⟩
  simp only[List.getElem_append_right (Nat.le_refl _),Nat.sub_self,List.getElem_cons_zero]
  exact hel _ _ _ h1
theorem FitV.fitC{lo:Nat}{S S':Nat->Prop}{f:FitT}{us ur:Value}{W:World}(h:FitV lo S f (.agg #[us,ur]) W)(hS:∀b,lo<=b->b<W.heap.size->¬S b->S' b):FitC W S' us ur f:=by
 obtain⟨pa,pn,pc,va,vn,vc,e,h1,h2,h3,h4,h5,h6,h7,h8⟩:=h
 simp only[Value.agg.injEq,Array.mk.injEq,List.cons.injEq,and_true]at e
 obtain⟨rfl,rfl⟩:=e
 refine⟨pa,pn,pc,va,vn,vc,rfl,rfl,h1,h2,h3,h4,h5,h6,fun b o e=>?_,fun b o e=>?_⟩
 ·obtain⟨g1,g2,g3,g4⟩:=h7 b o e
  exact⟨hS b g1 g2 g3,g2,g4⟩
 ·obtain⟨g1,g2,g3,g4⟩:=h8 b o e
  exact⟨hS b g1 g2 g3,g2,g4⟩
end
section
open Go.RowKit
attribute [local go_sem] Oper.semAt_some
theorem newsD(w:World)(x0 x1:Value)(T:TypeId):∀j u,[x0,x1][j]? =some u->(w.alloc (.cells #[x0,x1] T)).cell? ((⟨w.heap.size,0,none⟩:Addr).add j)=some u:=by
 intro j u hu
 match j,hu with
 |0,hu=>rw[Addr.add_lit,World.cell?_alloc_at _ _ _ _ rfl];simpa using hu
 |1,hu=>rw[Addr.add_lit,World.cell?_alloc_at _ _ _ _ rfl];simpa using hu
structure ColI (w:World) (base:Nat) (Sr:Nat->Prop) (pre:List FitT) (Z:World):Prop where
 b:Below w.heap.size w Z
 z:base<=Z.heap.size
 o:∃v,Boxed Z w.heap.size 87 v∧zCL Z base (fun q=>base<=q∧¬Sr q) v pre
theorem ColI.keep{w A B:World}{base:Nat}{S S':Nat->Prop}{pre:List FitT}(h:ColI w base S pre A)(hn:∀k,S' k->S k∨A.heap.size<=k)(hl:∀k,S' k->base<=k)(hb:w.heap.size<base)
 (hk:Keep (fun k=>(k<=w.heap.size∨base<=k)∧¬S' k) A B):ColI w base S' pre B:=by
 have hns:∀k,k<base->¬S' k:=fun k hk hs=>by have:=hl k hs;omega
 obtain⟨v,h1,h2⟩:=h.o
 refine⟨hk.below h.b h.b.size fun k hk=>⟨by omega,hns k (by omega)⟩,Nat.le_trans h.z hk.size,v,(hk.block _ h1.lt ⟨by omega,hns _ (by omega)⟩).trans h1,h2.keep hk fun q hq hlt=>?_⟩
 have h4:¬S' q:=fun hs=>by
  rcases hn q hs with h|h
  ·exact hq.2 h
  ·omega
 exact⟨⟨.inr hq.1,h4⟩,hq.1,h4⟩
theorem appendFits_c(w:World)(k kb qb:Nat)(a a2:Option Addr)(n cap n2 cap2:Nat)(M:Mask)(y:List Int)(hn:M.length=n)(hn2:y.length=n2)(hm:n<=maxLen)(hm2:n2<=maxLen)(h1:1<=n)(hW:zAA M<=10)(hk:k<=1000)
 (hkb:kb<w.heap.size)(hqb:qb<w.heap.size)(hck:w.cell? ⟨kb,0,none⟩=some (.int .i64 k))(hcq:w.heap[qb]? =some (.cells #[.slice a n cap,.slice a2 n2 cap2] 216 (0,0)))(H:zAL w a M)(H2:zAE w a2 y):
 Calls Tryz.prog 253 #[.slice none 0 0,.func (.func 254) #[] #[.pointer (some ⟨kb,0,none⟩),.pointer (some ⟨qb,0,none⟩)]] w fun e w'=>
  Below w.heap.size w w'∧∃v base,e=.returned v∧w.heap.size<=base∧zCL w' base (fun q=>w.heap.size<=q) v (zBE M y k):=by
 obtain⟨w1,hw1⟩:=exq (w.alloc (.cells #[.slice none 0 0] 87))
 have hs1:w1.heap.size=w.heap.size+1:=by rw[hw1,World.size_alloc]
 have hb1:Below w.heap.size w w1:=by rw[hw1];exact(Below.refl _ _).alloc (Nat.le_refl _) _
 have hB:Boxed w1 w.heap.size 87 (.slice none 0 0):=by rw[hw1];exact World.alloc_heap_new _ _
 obtain⟨fp,hfp⟩:∃fp:Nat->Prop,fp=fun q=>q<w.heap.size:=⟨_,rfl⟩
 have HIT:=hid (fits_iter w1 fp k kb qb a a2 n cap n2 cap2 M y hn hn2 hm hm2 h1 (by omega) hk (by rw[hfp];intro q hq;show q<w1.heap.size;have:q<w.heap.size:=hq;omega) (by rw[hfp];exact hkb) (by rw[hfp];exact hqb)
  ((hb1.cell (p:=⟨kb,0,none⟩) hkb).trans hck) ((hb1.block _ hqb).trans hcq)
  (fun X _ hX=>by
    have hX2:∀q,q<w.heap.size->X.heap[q]? =w.heap[q]? :=fun q hq=>(hX q (by rw[hfp];exact hq)).trans (hb1.block q hq)
    exact⟨zAL.blk H hX2,zAE.blk H2 hX2⟩))
 have HCNT:=hid (show(zBE M y k).length<=11264 by
  have h3:=zEQ M y (zAA M) (min (min k (zAA M)) M.length+1)
  have h4:2 ^ (zAA M)<=1024:=Nat.pow_le_pow_right (by omega) (show zAA M<=10 by omega)
  have h5:(min (min k (zAA M)) M.length+1)*2 ^ (zAA M)<=11*1024:=Nat.mul_le_mul (by omega) h4
  have h6:(zBE M y k).length=(zBM M y (zAA M) (min (min k (zAA M)) M.length+1)).length:=rfl
  omega)
 have HFP:=hid hfp
 have HW1:=hid hw1
 have HS1:=hid hs1
 have HB1:=hid hb1
 have HBX:=hid hB
 clear hn hn2 hm hm2 h1 hW hk hkb hqb hck hcq H H2 hw1 hs1 hb1 hB hfp
 refine callsIn_wide (n:=0) |>.1 ?_
 refine callsIn_of_wp_marks Tryz.func253 rfl trivial ?_ rfl
 simp only[Tryz.ntmps253,List.size_toArray,List.length_cons,List.length_nil,Nat.reduceAdd,Nat.reduceSub,Array.replicate_succ,Array.replicate_zero,List.push_toArray,List.append_toArray,List.nil_append,List.cons_append]
 gi_wp2
 rw[<- HW1.out]
 refine range_s (gf:=254) (lb:=#[.pointer (some ⟨kb,0,none⟩),.pointer (some ⟨qb,0,none⟩)]) (xs:=zBE M y k) (fp:=fp) (V:=FitV) rfl (enters_of Tryz.func254 (by kernel_rfl) rfl)
  HIT.out (Below.refl _ _) (by rw[HFP.out];intro q h;have:=HS1.out;have:q<w.heap.size:=h;omega)
  (fun Sr pre Z=>ColI w (w1.heap.size+2) Sr pre Z)
  (fun _ _ _ _=>False) ?hI (fun _ _ _ _ _ _ h=>h.elim) ?hV ?h0
  (fun v a' Z=>∃p u1 u2 f0 f1,a'={tmps:=#[.slice none 0 0,f0,.pointer (some ⟨w.heap.size,0,none⟩),undef,.slice none 0 0,.pointer (some ⟨p,0,none⟩),f1,v,undef,undef,undef,undef,undef],defers:=[]}∧v=.agg #[u1,u2]∧w1.heap.size+2<=p∧Z.heap[p]? =some (.cells #[u1,u2] 73 (0,0))) ?hAx ?hassign ?hbody ?hdone ?hstop
 case hI=>
  intro Sr Sr' s A B hIA h1 h2 h3 h4 hk
  exact hIA.keep h2 h3 (by have:=HS1.out;omega) (hk.mono fun k hk=>by have:=HS1.out;exact⟨by omega,by omega,hk.2⟩)
 case hV=>
  intro Sr x v A B hv hk
  exact hv.keep hk (fun k hk=>⟨by omega,by omega⟩)
 case h0=>
  intro Z hk hZ
  have hs1:=HS1.out
  exact⟨hk.below HB1.out HB1.out.size fun k hk=>by omega,hZ,_,(hk.block _ HBX.out.lt (by show _<_;omega)).trans HBX.out,zCL.nil _ _ _⟩
 case hAx=>
  rintro v a' A B ⟨p,u1,u2,f0,f1,e1,e2,hp,hc⟩ hk
  exact⟨p,u1,u2,f0,f1,e1,e2,hp,(hk.block p (Array.getElem?_eq_some_iff.1 hc).1 ⟨by omega,by omega⟩).trans hc⟩
 case hassign=>
  rintro l Sr x v Z K hZ ⟨pa,pn,pc,va,vn,vc,rfl,_⟩ hK
  gi_wp2
  refine hK _ _ ((Below.refl _ _).alloc (Nat.le_refl _) _) ⟨Z.heap.size,_,_,_,_,rfl,rfl,hZ,World.alloc_heap_new Z _⟩
 case hbody=>
  rintro l' Sr pre f _ _ Z hpre hSr hI hv ⟨p,u1,u2,f0,f1,rfl,rfl,hp,hpc⟩ hZ hDo hLo
  obtain⟨v,hvb,hro⟩:=hI.o
  have hFC:FitC Z (fun q=>w1.heap.size+2<=q∧¬Sr q) u1 u2 f:=hv.fitC fun b h1 h2 h3=>⟨h1,h3⟩
  have hcnt:pre.length+1<=11264:=by have h1:=HCNT.out;have h2:=hpre.length_le;simp at h2;omega
  obtain⟨pa,pn,pc,va,vn,vc,e1,e2,_⟩:=id hFC
  subst e1 e2
  have hp0:Z.cell? ⟨p,0,none⟩=some (.slice pa pn pc):=by simp[World.cell?,hpc]
  have hp1:Z.cell? ⟨p,1,none⟩=some (.slice va vn vc):=by simp[World.cell?,hpc]
  have hbc:=hvb.cell
  obtain⟨xs,ho,hg,he⟩:=hro
  obtain⟨i0,hi0,hz0,hz1,hz2⟩:=info_parts info_fit
  have HI:=hid hI
  have HVB:=hid hvb
  have HO:=hid ho
  have HG:=hid hg
  have HE:=hid he
  have HFC:=hid hFC
  have HSR:=hid hSr
  have M1:=hid (show pre.length+1<=maxLen by unfold maxLen;omega)
  have M2:=hid (show(pre.length+1)*48<=140737488355328 by omega)
  have M3:=hid (show w1.heap.size+2<=(Z.alloc (.cells #[.slice pa pn pc,.slice va vn vc] 73)).heap.size by simp;omega)
  have HZ:=hid hZ
  clear hI hvb ho hg he hFC hSr hpre hv hcnt hDo hLo hpc
  gi_wp2_with (gi_at_builtin;go_loud (refine wpListIn_append_own_at _ rfl _ _ 87 rfl (w1.heap.size+2) 73 i0 (.agg #[.slice none 0 0,.slice none 0 0]) 2 48 Tryz.underlying87 hi0 hz0 hz1 hz2 rfl (by decide) v _ _ rfl (HO.out.alloc _) ⟨Z.heap.size,0,none⟩ 1 1 [.slice pa pn pc,.slice va vn vc] rfl rfl (newsD Z _ _ _) (by intro u hu;simp at hu;rcases hu with rfl|rfl<;>rfl) M1.out M2.out M3.out ?_;refine Stop.of ?_))
  refine Stop.go ?_
  intro v5 w9 own5 g5 _ hat5
  obtain⟨a5,c5,rfl⟩:=zAH own5
  have hob:∀q,v.ownBlock=some q->w1.heap.size+2<=q∧¬Sr q:=fun q hq=>HG.out q hq
  have hs1:=HS1.out
  have hzz:=HZ.out
  have hZ1:Below Z.heap.size Z (Z.alloc (.cells #[.slice pa pn pc,.slice va vn vc] 73)):=(Below.refl _ _).alloc (Nat.le_refl _) _
  have hK9:Keep (fun q=>some q≠v.ownBlock) Z w9:=(Keep.of_below hZ1).trans (Keep.grown g5)
  have hS5:∀q,(Value.slice a5 (pre.length+1) c5).ownBlock=some q->w1.heap.size+2<=q∧¬Sr q:=fun q hq=>by
   rcases hat5 with e|e
   ·exact hob q (by rw[<- e];exact hq)
   ·rw[e]at hq
    cases hq
    exact⟨by omega,fun hs=>by have:=(HSR.out _ hs).2;omega⟩
  have hF9:zCL w9 (w1.heap.size+2) (fun q=>w1.heap.size+2<=q∧¬Sr q) (.slice a5 (pre.length+1) c5) (pre++[f]):=zCL.snoc HO.out HE.out HFC.out hZ1 g5 own5 hS5
  have hbx9:Boxed w9 w.heap.size 87 v:=(hK9.block _ HVB.out.lt (by intro e;have:=(hob _ e.symm).1;omega)).trans HVB.out
  have hc9:=hbx9.cell
  have hf9:=hbx9.frozen
  obtain⟨wA,hwA⟩:=exq (w9.setCell ⟨w.heap.size,0,none⟩ (.slice a5 (pre.length+1) c5))
  have kA:Keep (fun q=>q≠w.heap.size) w9 wA:=by rw[hwA];exact Keep.set w9 _ 0 _
  have nA:Boxed wA w.heap.size 87 (.slice a5 (pre.length+1) c5):=by rw[hwA];exact hbx9.set _
  have HA:=hid (And.intro nA (And.intro kA (And.intro hF9 hK9)))
  have HWA:=hid hwA
  have HOB:=hid hob
  clear own5 g5 hat5 hob hK9 hS5 hF9 hbx9 hwA kA nA hs1 hzz hZ1 hi0 hz0 hz1 hz2
  gi_wp2
  rw[<- HWA.out]
  obtain⟨nA,kA,hF9,hK9⟩:=HA.out
  have hs1:=HS1.out
  have kk:Keep (fun q=>q≠w.heap.size∧some q≠v.ownBlock) Z wA:=(hK9.mono fun q hq=>hq.2).trans (kA.mono fun q hq=>hq.1)
  refine⟨kk.size,fun q hq=>?_,?_⟩
  ·have hq1:q<Z.heap.size∧q≠w.heap.size∧some q≠v.ownBlock:=by
    have hzz:=HZ.out
    rcases hq with h|h|h|h
    ·rw[HFP.out]at h
     have h':q<w.heap.size:=h
     exact⟨by omega,by omega,fun e=>by have:=(HOB.out _ e.symm).1;omega⟩
    ·exact⟨by omega,by omega,fun e=>by have:=(HOB.out _ e.symm).1;omega⟩
    ·exact⟨by omega,by omega,fun e=>by have:=(HOB.out _ e.symm).1;omega⟩
    ·have:=HSR.out q h
     exact⟨this.2,by omega,fun e=>(HOB.out _ e.symm).2 h⟩
   exact kk.block q hq1.1 hq1.2
  ·refine⟨kk.below HI.out.b HI.out.b.size fun q hq=>⟨by omega,fun e=>by have:=(HOB.out _ e.symm).1;omega⟩,Nat.le_trans HZ.out kk.size,_,nA,hF9.keep kA fun q hq _=>⟨by have:=hq.1;omega,hq⟩⟩
 case hdone=>
  intro Sr Z hZ hSr hI hmk
  obtain⟨v,hvb,hro⟩:=hI.o
  have hcv:=hvb.cell
  have HI:=hid hI
  have HRO:=hid hro
  have HMR:=hid hmk
  obtain⟨va,vc,rfl⟩:=hro.slice
  clear hI hvb hro hmk hSr
  gi_wp2
  have hs1:=HS1.out
  refine zFJ [w1.heap.size] Z (by simp) (fun h hh=>by rw[List.mem_singleton.1 hh];exact HMR.out) fun w' hk=>?_
  refine⟨_,results_tmp rfl _ _ _,hk.below HI.out.b HI.out.b.size (fun k hk hh=>by rw[List.mem_singleton.1 hh]at hk;omega),_,w1.heap.size+2,rfl,by omega,?_⟩
  exact HRO.out.keep hk (fun q hq _=>⟨fun hh=>by have:=hq.1;rw[List.mem_singleton.1 hh]at this;omega,by have:=hq.1;omega⟩)
 case hstop=>
  intro Sr c pre Z hpre hSr hI hmk
  exact hI.elim
end
section
open Go.RowKit
theorem zNP(w:World)(k kb qb:Nat)(a a2:Option Addr)(n cap n2 cap2:Nat)(M:Mask)(y:List Int)(hn:M.length=n)(hn2:y.length=n2)(hm:n<=maxLen)(hm2:n2<=maxLen)(h1:1<=n)(hW:zAA M<=10)(hk:k<=1000)
 (hkb:kb<w.heap.size)(hqb:qb<w.heap.size)(hck:w.cell? ⟨kb,0,none⟩=some (.int .i64 k))(hcq:w.heap[qb]? =some (.cells #[.slice a n cap,.slice a2 n2 cap2] 216 (0,0)))(H:zAL w a M)(H2:zAE w a2 y):
 Calls Tryz.prog 233 #[.func (.func 254) #[] #[.pointer (some ⟨kb,0,none⟩),.pointer (some ⟨qb,0,none⟩)]] w fun e w'=>
  Below w.heap.size w w'∧∃v base,e=.returned v∧w.heap.size<=base∧zCL w' base (fun q=>w.heap.size<=q) v (zBE M y k):=by
 have HA:=hid (appendFits_c w k kb qb a a2 n cap n2 cap2 M y hn hn2 hm hm2 h1 hW hk hkb hqb hck hcq H H2)
 clear hn hn2 hm hm2 h1 hW hk hkb hqb hck hcq H H2
 go_enter Tryz.func233,Tryz.ntmps233
 go_wp2_with (go_at_call 253;refine HA.out.mono ?_;rintro e w1 ⟨hb,v,base,rfl,hbs,hf⟩)
 go_ret
 exact⟨hb,v,base,rfl,hbs,hf⟩
theorem collect2_c(X:World)(q:Nat)(a a2:Option Addr)(n cap n2 cap2:Nat)(M:Mask)(y:List Int)(hn:M.length=n)(hn2:y.length=n2)(hm:n<=maxLen)(hm2:n2<=maxLen)(h1:1<=n)(hW:zAA M<=10)(hk:q<=1000)(H:zAL X a M)(H2:zAE X a2 y)(X2:World)(hX2:X2=(X.alloc (.cells #[.slice a n cap,.slice a2 n2 cap2] 216)).alloc (.cells #[.int .i64 (q:Int)] 3)):
 Calls Tryz.prog 233 #[.func (.func 254) #[] #[.pointer (some ⟨X.heap.size+1,0,none⟩),.pointer (some ⟨X.heap.size,0,none⟩)]] X2 fun e w'=>
  Below X2.heap.size X2 w'∧∃v base,e=.returned v∧X2.heap.size<=base∧zCL w' base (fun q=>X2.heap.size<=q) v (zBE M y q):=by
 have hb2:Below X.heap.size X X2:=by rw[hX2];exact((Below.refl _ X).alloc (Nat.le_refl _) _).alloc (by simp) _
 have e1:X2.heap[X.heap.size]? =some (.cells #[.slice a n cap,.slice a2 n2 cap2] 216 (0,0)):=by
  rw[hX2,Below.heap_alloc _ _ _ (by simp)];exact World.alloc_heap_new _ _
 have e2:X2.cell? ⟨X.heap.size+1,0,none⟩=some (.int .i64 (q:Int)):=by
  have:=World.alloc_heap_new (X.alloc (.cells #[.slice a n cap,.slice a2 n2 cap2] 216)) (.cells #[.int .i64 (q:Int)] 3)
  rw[World.size_alloc,<- hX2]at this
  simp[World.cell?,this]
 have hs:X2.heap.size=X.heap.size+2:=by rw[hX2];simp
 exact zNP X2 q (X.heap.size+1) X.heap.size a a2 n cap n2 cap2 M y hn hn2 hm hm2 h1 hW hk (by omega) (by omega) e2 e1 (H.below hb2) (H2.below hb2)
theorem sparseFits_c(w:World)(a a2:Option Addr)(n cap n2 cap2:Nat)(M:Mask)(y:List Int)(k:Int)(hn:M.length=n)(hn2:y.length=n2)(hm:n<=maxLen)(hm2:n2<=maxLen)(H:zAL w a M)(H2:zAE w a2 y):
 Calls Tryz.prog 197 #[.slice a n cap,.slice a2 n2 cap2,.int .i64 k] w fun e w'=>Below w.heap.size w w'∧((zFE M y k≠0∧e=.returned (.tuple #[.slice none 0 0,.int .i64 (zFE M y k)]))∨
  (zFE M y k=0∧∃v base,e=.returned (.tuple #[v,.int .i64 0])∧w.heap.size<=base∧zCL w' base (fun q=>w.heap.size<=q) v (zBE M y k.toNat))):=by
 have HC:=hid (counted_c w a a2 n cap n2 cap2 M y k hn hn2 hm hm2 H H2)
 by_cases h0:zFE M y k=0
 ·obtain⟨hM,hyn,hyB,_⟩:=zIF (show zBJ M y []=0 by
   unfold zFE at h0;split at h0
   ·assumption
   ·exact h0)
  have hk:inB k 0 10=true:=by
   unfold zFE at h0;split at h0
   ·cases hb:inB k 0 10
    ·rw[hb]at h0;simp at h0
    ·rfl
   ·contradiction
  obtain⟨hM',h1,h6,hc1,hc10⟩:=zCN hM
  have hkk:∃q:Nat,k=(q:Int)∧q<=10:=⟨k.toNat,by unfold inB at hk;simp at hk;omega,by unfold inB at hk;simp at hk;omega⟩
  obtain⟨q,rfl,hq10⟩:=hkk
  have HCO:=hid (fun(X:World) (hX:Below w.heap.size w X) (X2:World)=>collect2_c X q a a2 n cap n2 cap2 M y hn hn2 hm hm2 (by omega) hc10 (by omega) (H.below hX) (H2.below hX) X2)
  rw[h0]at HC⊢
  rw[Int.toNat_natCast]
  obtain⟨F,hF⟩:=exq (zBE M y q)
  rw[<- hF]at HCO⊢
  clear hn hn2 hm hm2 H H2 h0 hM hyn hyB hk hM' h1 h6 hc1 hc10 hF
  go_enter Tryz.func197,Tryz.ntmps197
  go_wp2_with (go_at_call 232;refine HC.out.mono ?_;rintro e w1 ⟨rfl,hb1⟩;refine Stop.of ?_)
  refine Stop.go ?_
  have HB1:=hid hb1
  clear hb1
  go_wp2_with (go_at_call 234;refine(qfits_c _ _ _ _ _ _ _ _).mono ?_;rintro e w2 ⟨rfl,hw2⟩;have HW2:=hid hw2;clear hw2;refine Stop.of ?_)
  refine Stop.go ?_
  have hco:=HCO.out w1 HB1.out w2 HW2.out
  have HC2:=hid hco
  have HB12:=hid (show Below w1.heap.size w1 w2 by rw[HW2.out];exact((Below.refl _ w1).alloc (Nat.le_refl _) _).alloc (by simp) _)
  clear hco
  go_wp2_with (go_at_call 233;refine HC2.out.mono ?_;rintro e w3 ⟨hb3,v,base,rfl,hbs,hf⟩)
  go_ret2
  exact⟨zAB HB1.out (zAB HB12.out hb3),.inr ⟨trivial,v,base,rfl,by have:=HB1.out.size;have:=HB12.out.size;omega,hf.keep (Keep.refl (fun _=>True) _) fun q hq _=>⟨trivial,by have:=HB1.out.size;have:=HB12.out.size;omega⟩⟩⟩
 ·have hne:(zFE M y k !=0)=true:=by simpa using h0
  have H0:=hid h0
  obtain⟨E,hE⟩:=exq (zFE M y k)
  rw[<- hE]at HC hne H0⊢
  clear hn hn2 H H2 h0 hE
  go_enter Tryz.func197,Tryz.ntmps197
  go_wp2_with (go_at_call 232;refine HC.out.mono ?_;rintro e w1 ⟨rfl,hb1⟩)
  go_ret2
  exact⟨hb1,.inl ⟨H0.out,rfl⟩⟩
theorem dfits_c(w:World)(a a2:Option Addr)(n cap n2 cap2:Nat)(M:Mask)(y:List Int)(hn:M.length=n)(hn2:y.length=n2)(hm:n<=maxLen)(hm2:n2<=maxLen)(H:zAL w a M)(H2:zAE w a2 y)(h0:zBJ M y []=0):
 Calls Tryz.prog 135 #[.agg #[.slice a n cap,.slice a2 n2 cap2]] w fun e w'=>Below w.heap.size w w'∧∃v base,e=.returned v∧w.heap.size<=base∧zCL w' base (fun q=>w.heap.size<=q) v (zBE M y 10):=by
 obtain⟨wz,hwz⟩:=exq (w.alloc (.cells #[.slice a n cap,.slice a2 n2 cap2] 86))
 have hbz:Below w.heap.size w wz:=by rw[hwz];exact(Below.refl _ _).alloc (Nat.le_refl _) _
 have l0:wz.cell? ⟨w.heap.size,0,none⟩=some (.slice a n cap):=by rw[hwz,World.cell?_alloc_at _ _ _ _ rfl];rfl
 have l1:wz.cell? ⟨w.heap.size,1,none⟩=some (.slice a2 n2 cap2):=by rw[hwz,World.cell?_alloc_at _ _ _ _ rfl];rfl
 have hc:zFE M y 10=0:=by unfold zFE;rw[if_pos h0];decide
 have HF:=hid (sparseFits_c wz a a2 n cap n2 cap2 M y 10 hn hn2 hm hm2 (H.below hbz) (H2.below hbz))
 rw[hc]at HF
 have HBZ:=hid hbz
 obtain⟨F,hF⟩:=exq (zBE M y 10)
 have hF2:F=zBE M y (10:Int).toNat:=hF
 rw[<- hF]
 rw[<- hF2]at HF
 have HW:=hid hwz
 clear hn hn2 hm hm2 H H2 h0 hbz hc hF hF2 hwz
 go_enter Tryz.func135,Tryz.ntmps135
 go_upto_region 1 with fail
 rw[<- HW.out]
 go_wp2_with (go_at_call 197;refine HF.out.mono ?_;rintro e w3 ⟨hb3,⟨hx,_⟩|⟨_,v,base,rfl,hbs,hf⟩⟩;first|exact absurd rfl hx|skip)
 go_ret
 exact⟨zAB HBZ.out hb3,v,base,rfl,Nat.le_trans HBZ.out.size hbs,hf.keep (Keep.refl (fun _=>True) _) fun q hq _=>⟨trivial,Nat.le_trans HBZ.out.size hq⟩⟩
end
section
theorem solve_vals{R:List (List Int)}{n:Nat}(he:(zAQ R n).2=0):(zAQ R n).1=(List.range n).map fun k=>ofF (vec ((pRed R n).1[k]?.getD []) n) (vec ((pRed R n).1[k]?.getD []) (jf (pRed R n).2 k)):=by
 unfold zAQ at he⊢
 simp only[]at he⊢
 split at he
 ·simp at he
 ·rename_i h1
  split at he
  ·simp at he
  ·rename_i h2
   rw[if_neg h1,if_neg h2]
theorem zFT{M:List (List Int)}{n:Nat}(h:MaskOk M n){y:List Int}(hy:y.length=M.length)(hmil:∀v∈y,-1000000<=v∧v<=1000000)(he:(zAQ (zAF M y) n).2=0):
 ∃(l:Nat->Int) (D:Int),0<D∧D<=288∧(∀k,k<n->(zAC (zAQ (zAF M y) n).1 k).1*D=l k*(zAC (zAQ (zAF M y) n).1 k).2)∧(∀k,k<n->(l k).natAbs<=720000000)∧
  SolM M n y l D∧(∀k,0<(zAC (zAQ (zAF M y) n).1 k).2)∧zEU M n=n∧(∀k,zAJ (zAC (zAQ (zAF M y) n).1 k)=true):=by
 obtain⟨hr,l',D',hD',k1,k2⟩:=solve_to h hy hmil he
 have hY:=h.addY hy (Y:=1000000) (by decide) (by simpa using hmil)
 have hi:=zCA (zAF M y) hY.wid n (fun j hj q=>zBT (by decide) (fun r hr=>hY.one r hr j hj) q)
 have hpiv:=zKF h hy hY
 have hJl:(pRed (zAF M y) n).2.length=n:=by rw[hpiv];exact hr
 have hasc:(pRed (zAF M y) n).2=List.range' 0 n:=zKB hi.asc (fun x hx=>by have:=hi.lt x hx;omega) hJl
 have hjf:∀k,k<n->jf (pRed (zAF M y) n).2 k=k:=fun k hk=>by
  rw[hasc];unfold jf;rw[List.getElem?_range' hk];simp
 have hval:=solve_vals he
 have hat:∀k,k<n->zAC (zAQ (zAF M y) n).1 k=ofF (rowv (pRed (zAF M y) n).1 k n) (rowv (pRed (zAF M y) n).1 k k):=fun k hk=>by
  rw[hval]
  unfold zAC
  rw[List.getElem?_map,List.getElem?_range hk]
  simp only[Option.map_some,Option.getD_some]
  rw[hjf k hk];rfl
 have hout:∀k,n<=k->zAC (zAQ (zAF M y) n).1 k=(0,1):=fun k hk=>by
  rw[hval];unfold zAC
  rw[List.getElem?_eq_none (by simp;exact hk)];rfl
 have hJ1:∀x∈(pRed (zAF M y) n).2,∀r,-1<=rowv (zAF M y) r x∧rowv (zAF M y) r x<=1:=fun x hx r=>zBT (by decide) (fun r hr=>hY.one r hr x (hi.lt x hx)) r
 have hpv:=fun k (hk:k<n)=>hi.piv_288 hY.le6 hJ1 (k:=k) (by omega)
 obtain⟨A,hs,hA⟩:=hi.st
 have hA1:∀k,k<(pRed (zAF M y) n).2.length->∀r,-1<=A r (jf (pRed (zAF M y) n).2 k)∧A r (jf (pRed (zAF M y) n).2 k)<=1:=by
  intro k hk r
  obtain⟨q0,e⟩:=hA r
  rw[e]
  exact hJ1 _ (by unfold jf;rw[List.getElem?_eq_getElem hk];exact List.getElem_mem hk) q0
 have hAY:∀r,-(1000000:Int)<=A r n∧A r n<=1000000:=fun r=>by
  obtain⟨q0,e⟩:=hA r
  rw[e]
  exact zBT (c:=n) (by omega) (fun r hr=>zET (P:=fun x=> -(1000000:Int)<=x∧x<=1000000) (by omega) (hY.all r hr) n) q0
 have hd288:=det_288 (zCO (jf (pRed (zAF M y) n).2) A (pRed (zAF M y) n).2.length) (fun x hx r=>by
  obtain⟨k,hk,rfl⟩:=zFD.1 hx
  exact hA1 k hk r) (zCK (pRed (zAF M y) n).2.length) (by rw[zEJ,zCU]) (by rw[zCU];exact Nat.le_trans hs.le hY.le6)
 have hd0:=hs.d0
 obtain⟨d,hd⟩:=exq (det (zCO (jf (pRed (zAF M y) n).2) A (pRed (zAF M y) n).2.length) (zCK (pRed (zAF M y) n).2.length))
 rw[<- hd]at hd288 hd0
 -- the minors
 have hmin:∀k,k<n->∃E:Int,E.natAbs<=720000000∧rowv (pRed (zAF M y) n).1 k k*E=d*rowv (pRed (zAF M y) n).1 k n:=by
  intro k hk
  have hk':k<(pRed (zAF M y) n).2.length:=by omega
  obtain⟨⟨s,hs2,e0⟩,e⟩:=hs.minorU hk'
  rw[<- hd]at e0
  have e1:=e n
  rw[e0,hjf k hk]at e1
  have hl:=(zFH (J:=jf (pRed (zAF M y) n).2) (A:=A) hk').2
  have hb:=det_le2 (c:=fun r=>A r n) hAY (zBG (jf (pRed (zAF M y) n).2) A k (pRed (zAF M y) n).2.length) (fun d hd r=>by obtain⟨k,hk,rfl⟩:=zDH hd;exact hA1 k hk r) (zCK (pRed (zAF M y) n).2.length) (by rw[zEJ];exact hl.symm)
  rw[hl]at hb
  have hK6:(pRed (zAF M y) n).2.length<=6:=Nat.le_trans hs.le hY.le6
  have hfact:∀a:Nat,a+1<=6->((a+1:Nat):Int)*(1000000*(fact a:Int))<=720000000:=fun a ha=>by
   have:a=0∨a=1∨a=2∨a=3∨a=4∨a=5:=by omega
   rcases this with rfl|rfl|rfl|rfl|rfl|rfl<;>decide
  have hf:=hfact (zBG (jf (pRed (zAF M y) n).2) A k (pRed (zAF M y) n).2.length).length (by omega)
  rw[hl]at hf
  refine⟨s*minorU (pRed (zAF M y) n).2.length (jf (pRed (zAF M y) n).2) A k n,?_,?_⟩
  ·have:(s*minorU (pRed (zAF M y) n).2.length (jf (pRed (zAF M y) n).2) A k n).natAbs=(minorU (pRed (zAF M y) n).2.length (jf (pRed (zAF M y) n).2) A k n).natAbs:=by
    rw[Int.natAbs_mul]
    rcases hs2 with rfl|rfl<;>simp
   rw[this]
   unfold minorU
   omega
  ·have h1:s*s=1:=by rcases hs2 with rfl|rfl<;>rfl
   generalize minorU (pRed (zAF M y) n).2.length (jf (pRed (zAF M y) n).2) A k n=E at*
   generalize rowv (pRed (zAF M y) n).1 k k=b at*
   generalize rowv (pRed (zAF M y) n).1 k n=a at*
   have:b*(s*E)=s*(b*E):=by grind
   rw[this,e1]
   have:s*(s*d*a)=(s*s)*(d*a):=by grind
   rw[this,h1];omega
 -- the values over|d|
 have key:∀k,k<n->∃E:Int,E.natAbs<=720000000∧(zAC (zAQ (zAF M y) n).1 k).1*(d.natAbs:Int)=E*(zAC (zAQ (zAF M y) n).1 k).2:=by
  intro k hk
  obtain⟨E,h1,h2⟩:=hmin k hk
  have hb:=(hpv k hk).1
  rw[hjf k hk]at hb
  rw[hat k hk,zKU hb]
  obtain⟨c1,_,_,_,c5⟩:=zDB (a:=rowv (pRed (zAF M y) n).1 k n) hb
  generalize rowv (pRed (zAF M y) n).1 k k=b at*
  generalize rowv (pRed (zAF M y) n).1 k n=a at*
  generalize zBC a b=p at*
  obtain⟨p1,p2⟩:=p
  dsimp only at*
  have e1:b*(p1*d)=b*(E*p2):=by
   have:b*(p1*d)=(p1*b)*d:=by grind
   rw[this,c5]
   have:b*(E*p2)=(b*E)*p2:=by grind
   rw[this,h2];grind
  have e2:=Int.eq_of_mul_eq_mul_left (show b≠0 by omega) e1
  rcases Int.lt_or_le d 0 with c|c
  ·refine⟨-E,by omega,?_⟩
   have:(d.natAbs:Int)= -d:=by omega
   rw[this,Int.mul_neg,e2,Int.neg_mul]
  ·refine⟨E,h1,?_⟩
   have:(d.natAbs:Int)=d:=by omega
   rw[this,e2]
 have hpos:∀k,0<(zAC (zAQ (zAF M y) n).1 k).2:=fun k=>by
  rcases Nat.lt_or_ge k n with hk|hk
  ·have hb:=(hpv k hk).1
   rw[hjf k hk]at hb
   rw[hat k hk,zKU hb]
   exact(zDB hb).1
  ·rw[hout k hk];decide
 have hex:∃l:Nat->Int,∀k,k<n->(l k).natAbs<=720000000∧(zAC (zAQ (zAF M y) n).1 k).1*(d.natAbs:Int)=l k*(zAC (zAQ (zAF M y) n).1 k).2:=by
  refine⟨fun k=>if hk:k<n then Classical.choose (key k hk)else 0,fun k hk=>?_⟩
  simp only[dif_pos hk]
  exact Classical.choose_spec (key k hk)
 obtain⟨l,hl⟩:=hex
 refine⟨l,(d.natAbs:Int),by omega,by omega,fun k hk=>(hl k hk).2,fun k hk=>(hl k hk).1,⟨by omega,fun q hq=>?_⟩,hpos,hr,fun k=>?_⟩
 ·-- the system
  have e1:=k1 q hq
  have e2:∀c,c<n->D'*(rowv M q c*l c)=(d.natAbs:Int)*(rowv M q c*l' c):=fun c hc=>by
   have h1:=(hl c hc).2
   have h2:=k2 c hc
   have hp:=hpos c
   generalize zAC (zAQ (zAF M y) n).1 c=p at*
   obtain⟨p1,p2⟩:=p
   dsimp only at*
   have h3:p2*(l c*D')=p2*(l' c*(d.natAbs:Int)):=by
    have:p2*(l c*D')=(l c*p2)*D':=by grind
    rw[this,<- h1]
    have:p1*(d.natAbs:Int)*D'=(p1*D')*(d.natAbs:Int):=by grind
    rw[this,h2];grind
   have h4:=Int.eq_of_mul_eq_mul_left (show p2≠0 by omega) h3
   have:D'*(rowv M q c*l c)=rowv M q c*(l c*D'):=by grind
   rw[this,h4];grind
  have e3:D'*sm (fun i=>rowv M q i*l i) n=D'*(vec y q*(d.natAbs:Int)):=by
   rw[<- zCC,zAG e2,zCC,e1];grind
  exact Int.eq_of_mul_eq_mul_left (show D'≠0 by omega) e3
 ·rcases Nat.lt_or_ge k n with hk|hk
  ·have hb:=hpv k hk
   rw[hjf k hk]at hb
   rw[hat k hk,zKU hb.1]
   have b3:=sys_le hY k n
   obtain⟨c1,c2,c3,c4,_⟩:=zDB (a:=rowv (pRed (zAF M y) n).1 k n) hb.1
   rw[zBB]
   exact⟨by omega,by omega,by omega,by omega,c4⟩
  ·rw[hout k hk];decide
theorem nrmI_le{l:Nat->Int}{B:Nat}:∀n:Nat,(∀k,k<n->(l k).natAbs<=B)->nrmI l n<=((n*B:Nat):Int)
 |0,_=>by simp[nrmI,sm]
 |n+1,h=>by
  have h1:=nrmI_le n (fun k hk=>h k (by omega))
  have h2:=h n (by omega)
  show nrmI l n+((l n).natAbs:Int)<=_
  rw[Nat.succ_mul];omega
theorem solve_norm{M:List (List Int)}{n:Nat}(h:MaskOk M n){y:List Int}(hy:y.length=M.length)(hmil:∀v∈y,-1000000<=v∧v<=1000000)(he:(zAQ (zAF M y) n).2=0):
 0<(zCH (zAQ (zAF M y) n).1 n).2∧zAJ (zBC (zCH (zAQ (zAF M y) n).1 n).1 (zCH (zAQ (zAF M y) n).1 n).2)=true:=by
 obtain⟨l,D,hD,hD288,h1,h2,_,hp,hr,_⟩:=zFT h hy hmil he
 obtain⟨p1,p2⟩:=zHP hp n
 refine⟨p1,?_⟩
 have e:=zFV hD hp n h1
 have hn6:n<=6:=by have:=rank_le h;have:=h.le6;omega
 have hl:=nrmI_le n h2
 have hN:=zNE l n
 have e2:zBC (zCH (zAQ (zAF M y) n).1 n).1 (zCH (zAQ (zAF M y) n).1 n).2=zBC (nrmI l n) D:=zHK p1 hD (by rw[e,Int.mul_comm])
 rw[e2]
 obtain⟨c1,c2,c3,c4,_⟩:=zDB (a:=nrmI l n) hD
 have:n*720000000<=6*720000000:=Nat.mul_le_mul_right _ hn6
 rw[zBB]
 exact⟨by omega,by omega,by omega,by omega,c4⟩
end
section
open Go.RowKit
def OptV(w:World)(lo:Nat)(S:Nat->Prop)(o:Option (List Int))(v:Value):Prop:=
 (o=none∧v=.slice none 0 0)∨∃x b cap,o=some x∧v=.slice (some ⟨b,0,none⟩) x.length cap∧lo<=b∧S b∧zBS w b x∧1<=x.length∧x.length<=maxLen
theorem OptV.keep{w w':World}{lo:Nat}{S S' K:Nat->Prop}{o:Option (List Int)}{v:Value}(h:OptV w lo S o v)(hk:Keep K w w')(hS:∀b,lo<=b->b<w.heap.size->S b->K b∧S' b):OptV w' lo S' o v:=by
 rcases h with h|⟨x,b,cap,h1,h2,h3,h4,h5,h6,h7⟩
 ·exact .inl h
 ·have:=hS b h3 h5.lt h4
  exact .inr ⟨x,b,cap,h1,h2,h3,this.2,h5.keep (hk.block b h5.lt this.1),h6,h7⟩
theorem OptV.below{w w':World}{lo:Nat}{S:Nat->Prop}{o:Option (List Int)}{v:Value}(h:OptV w lo S o v)(hb:Below w.heap.size w w'):OptV w' lo S o v:=
 h.keep (Keep.of_below hb:Keep (fun _=>True) _ _) (fun _ _ _ h=>⟨trivial,h⟩)
end
section
open Go.RowKit
theorem OptV.mono{w:World}{lo lo':Nat}{S S':Nat->Prop}{o:Option (List Int)}{v:Value}(h:OptV w lo S o v)(hl:lo'<=lo)(hS:∀b,lo<=b->S b->S' b):OptV w lo' S' o v:=by
 rcases h with h|⟨x,b,cap,h1,h2,h3,h4,h5⟩
 ·exact .inl h
 ·exact .inr ⟨x,b,cap,h1,h2,Nat.le_trans hl h3,hS b h3 h4,h5⟩
def DecV(M:Mask)(k:Int)(fs:List Frm)(lo:Nat)(S:Nat->Prop)(j:Nat)(v u:Value)(W:World):Prop:=
 v=.int .i64 j∧OptV W lo (fun b=>¬S b) (decAt M k fs (j+1)) u
end
section
open Go.RowKit
attribute [local go_sem] Oper.semAt_some
theorem DecV.keep{M:Mask}{k:Int}{fs:List Frm}{lo:Nat}{S:Nat->Prop}{j:Nat}{v u:Value}{A B:World}{T:Nat->Prop}(h:DecV M k fs lo S j v u A)(hk:Keep T A B)(hT:∀q,lo<=q->T q):DecV M k fs lo S j v u B:=
 ⟨h.1,h.2.keep hk fun b h1 _ h2=>⟨hT b h1,h2⟩⟩
end
section
open Go.RowKit
def fitsR(M:Mask)(y:List Int)(k:Int):List FitT:=(allF M y).filter (fun f=>decide ((f.1.length:Int)<=k))
end
section
open Go.RowKit
theorem zJB{M:Mask}{y:List Int}{f:FitT}(h:f∈allF M y):zCE (zAA M) f.1∧f.2.length=f.1.length∧f.1.length<=zAA M:=by
 unfold allF at h
 obtain⟨S,hS,e⟩:=List.mem_filterMap.1 h
 obtain⟨h1,h2⟩:=fitF_len e
 rw[h1]
 exact⟨(allS_ok hS).2,h2,(allS_ok hS).1⟩
end
section
theorem lvls_fits(M:Mask)(y:List Int)(n:Nat):∀k,(lvls n k).filterMap (fitF M y)=zBM M y n (k+1)
 |0=>by
  rw[zCJ]
  show(comb n 0 0).filterMap (fitF M y)=zBM M y n 0++_
  simp[zBM]
 |k+1=>by
  rw[zCJ,<- lvls_fits M y n k]
  show(lvls n k++comb n (k+1) 0).filterMap (fitF M y)=_
  rw[List.filterMap_append]
theorem allF_to(M:Mask)(y:List Int):allF M y=zBM M y (zAA M) (zAA M+1):=lvls_fits M y _ _
theorem fits_size{M:Mask}{y:List Int}{W j:Nat}{f:FitT}(h:f∈(comb W j 0).filterMap (fitF M y)):f.1.length=j:=by
 obtain⟨S,hS,e⟩:=List.mem_filterMap.1 h
 rw[(fitF_len e).1]
 exact zCW _ _ _ _ hS
theorem fits_cut(M:Mask)(y:List Int)(W k:Nat):∀t,(zBM M y W t).filter (fun f=>decide ((f.1.length:Int)<=(k:Int)))=zBM M y W (min t (k+1))
 |0=>by simp[zBM]
 |t+1=>by
  rw[zCJ,List.filter_append,fits_cut M y W k t]
  rcases Nat.lt_or_ge k t with h|h
  ·have h1:((comb W t 0).filterMap (fitF M y)).filter (fun f=>decide ((f.1.length:Int)<=(k:Int)))=[]:=by
    rw[List.filter_eq_nil_iff]
    intro f hf
    have:=fits_size hf
    simp;omega
   rw[h1,List.append_nil,show min t (k+1)=k+1 by omega,show min (t+1) (k+1)=k+1 by omega]
  ·have h1:((comb W t 0).filterMap (fitF M y)).filter (fun f=>decide ((f.1.length:Int)<=(k:Int)))=(comb W t 0).filterMap (fitF M y):=by
    rw[List.filter_eq_self]
    intro f hf
    have:=fits_size hf
    simp;omega
   rw[h1,show min t (k+1)=t by omega,show min (t+1) (k+1)=t+1 by omega,zCJ]
theorem fit_long{M:Mask}{y S:List Int}(h:M.length<S.length):fitF M y S=none:=by
 unfold fitF
 rw[if_neg]
 rintro⟨h0,_⟩
 unfold zCM at h0
 split at h0
 ·rename_i hc
  obtain⟨hM,hy,hyB,hS⟩:=zIF hc
  have hmo:=(zCN hM).1
  have hY:=(hmo.cols S).addY (y:=y) (by rw[zBR];exact hy) (Y:=1000000) (by decide) (fun v hv=>by
   unfold milB at hyB
   have:=List.all_eq_true.1 hyB v hv
   unfold inB at this
   simp at this;omega)
  have hi:=zCA (zAF (zAW M S) y) hY.wid S.length (fun j hj q=>zBT (by decide) (fun r hr=>hY.one r hr j hj) q)
  have hk:=hi.K_le
  rw[zED (by rw[zBR];exact hy),zBR]at hk
  unfold zAQ at h0
  simp only[]at h0
  split at h0
  ·simp at h0
  ·split at h0
   ·simp at h0
   ·omega
 ·rename_i hc;exact hc h0
theorem fits_long(M:Mask)(y:List Int)(W:Nat):∀d,zBM M y W (M.length+1+d)=zBM M y W (M.length+1)
 |0=>rfl
 |d+1=>by
  rw[show M.length+1+(d+1)=(M.length+1+d)+1 by omega,zCJ,fits_long M y W d]
  have h1:(comb W (M.length+1+d) 0).filterMap (fitF M y)=[]:=by
   rw[List.filterMap_eq_nil_iff]
   intro S hS
   refine fit_long ?_
   rw[zCW _ _ _ _ hS];omega
  rw[h1,List.append_nil]
theorem fits_same(M:Mask)(y:List Int)(k:Nat):fitsR M y (k:Int)=zBE M y k:=by
 unfold fitsR zBE
 rw[allF_to,fits_cut]
 rcases Nat.lt_or_ge M.length (min k (zAA M))with h|h
 ·obtain⟨d,hd⟩:∃d,min (zAA M+1) (k+1)=M.length+1+d:=⟨min (zAA M+1) (k+1)-(M.length+1),by omega⟩
  rw[hd,fits_long,show min (min k (zAA M)) M.length+1=M.length+1 by omega]
 ·rw[show min (zAA M+1) (k+1)=min (min k (zAA M)) M.length+1 by omega]
end
section
open Go.RowKit
attribute [local go_sem] Oper.semAt_some
structure MissI (w w3:World) (ob:Nat) (fp:Nat->Prop) (S:Nat->Prop) (L:List Int) (Z:World):Prop where
 b:Below w.heap.size w Z
 f:Keep fp w3 Z
 o:∃v,Boxed Z ob 24 v∧Z.ownsRow (w3.heap.size+2) 3 1 v L.length (L.map (Value.int .i64))∧∀k,v.ownBlock=some k->¬S k∧k≠ob∧k≠w3.heap.size∧k≠w3.heap.size+1
 z:w3.heap.size+2<=Z.heap.size
theorem own_keep2{W W':World}{base:Nat}{T:TypeId}{k n:Nat}{v:Value}{xs:List Value}(h:W.ownsRow base T k v n xs){K:Nat->Prop}(hk:Keep K W W')(hK:∀g,v.ownBlock=some g->K g):W'.ownsRow base T k v n xs:=by
 refine⟨h.1,?_⟩
 rcases h.2 with hn|⟨g,cap,cur,rfl,hbg,hgg,rest⟩
 ·exact .inl hn
 ·exact .inr ⟨g,cap,cur,rfl,hbg,(hk.block g (Array.getElem?_eq_some_iff.1 hgg).1 (hK g rfl)).trans hgg,rest⟩
theorem MissI.keep{w w3:World}{ob:Nat}{fp S S':Nat->Prop}{L:List Int}{A B:World}(h:MissI w w3 ob fp S L A)(h1:∀k,S k->S' k)(h2:∀k,S' k->S k∨A.heap.size<=k)(h3:∀k,S' k->w3.heap.size+2<=k)
 (hob:ob<w3.heap.size)(hfp:∀k,fp k->k<w3.heap.size)(hw:w.heap.size<=w3.heap.size)(hk:Keep (fun k=>k≠w3.heap.size∧k≠w3.heap.size+1∧¬S' k) A B):MissI w w3 ob fp S' L B where
 b:=by
  have hz:=h.z
  exact hk.below h.b (Nat.le_trans hw (by omega)) (fun k hlt=>⟨by omega,by omega,fun hs=>by have:=h3 k hs;omega⟩)
 f:=h.f.trans (hk.mono fun k hlt=>by have:=hfp k hlt;exact⟨by omega,by omega,fun hs=>by have:=h3 k hs;omega⟩)
 o:=by
  obtain⟨v,hv,ho,hg⟩:=h.o
  have hg':∀k,v.ownBlock=some k->¬S' k∧k≠ob∧k≠w3.heap.size∧k≠w3.heap.size+1:=fun k hk'=>by
   obtain⟨g1,g2⟩:=hg k hk'
   refine⟨fun hs=>?_,g2⟩
   rcases h2 k hs with g|g
   ·exact g1 g
   ·have:=(ho.lt k hk').2;omega
  exact⟨v,(hk.block ob hv.lt ⟨by omega,by omega,fun hs=>by have:=h3 _ hs;omega⟩).trans hv,own_keep2 ho hk (fun g hgk=>⟨(hg' g hgk).2.2.1,(hg' g hgk).2.2.2,(hg' g hgk).1⟩),hg'⟩
 z:=Nat.le_trans h.z hk.size
end
section
open Go.RowKit
theorem OptV.slice{W:World}{base:Nat}{S:Nat->Prop}{o:Option (List Int)}{u:Value}(h:OptV W base S o u):∃a c,u=.slice a (o.getD []).length c∧(o.getD []).length<=maxLen∧zAE W a (o.getD [])∧(a=none↔o=none):=by
 rcases h with⟨rfl,rfl⟩|⟨x,b,c,rfl,rfl,_,_,h,_,h2⟩
 ·exact⟨none,0,rfl,by simp,fun j hj=>by simp at hj,by simp⟩
 ·exact⟨_,c,rfl,h2,h.ints,by simp⟩
def zJS(W:World)(base:Nat)(S:Nat->Prop)(v:Value)(os:List (Option (List Int))):Prop:=
 ∃vs,W.ownsRow base 24 1 v os.length vs∧(∀k,v.ownBlock=some k->S k)∧∀j (hj:j<os.length),∃u,vs[j]? =some u∧OptV W base S os[j] u
theorem zJS.nil(W:World)(base:Nat)(S:Nat->Prop):zJS W base S (.slice none 0 0) []:=
 ⟨[],World.ownsRow_nil _ _ _ _,fun k hk=>by simp[Value.ownBlock]at hk,fun j hj=>by simp at hj⟩
theorem zJS.slice{W:World}{base:Nat}{S:Nat->Prop}{v:Value}{T:List (Option (List Int))}(h:zJS W base S v T):∃a c,v=.slice a T.length c:=by
 obtain⟨xs,ho,_⟩:=h;exact zAH ho
theorem zJS.keep{W W':World}{base:Nat}{S S' K:Nat->Prop}{v:Value}{ls:List (Option (List Int))}(h:zJS W base S v ls)(hk:Keep K W W')(hS:∀b,S b->b<W.heap.size->K b∧S' b):zJS W' base S' v ls:=by
 obtain⟨vs,ho,hg,he⟩:=h
 refine⟨vs,⟨ho.1,?_⟩,fun k hk'=>?_,fun j hj=>?_⟩
 ·rcases ho.2 with hn|⟨g,cap,cur,rfl,hb,hgg,rest⟩
  ·exact .inl hn
  ·have hlt:=(Array.getElem?_eq_some_iff.1 hgg).1
   exact .inr ⟨g,cap,cur,rfl,hb,(hk.block g hlt (hS g (hg g rfl) hlt).1).trans hgg,rest⟩
 ·rcases ho.2 with⟨rfl,_⟩|⟨g,cap,cur,rfl,hb,hgg,rest⟩
  ·simp[Value.ownBlock]at hk'
  ·obtain rfl:g=k:=by simpa[Value.ownBlock]using hk'
   exact(hS g (hg g rfl) (Array.getElem?_eq_some_iff.1 hgg).1).2
 ·obtain⟨u,hu,hel⟩:=he j hj
  exact⟨u,hu,hel.keep hk (fun b _ hb hs=>hS b hs hb)⟩
theorem zJS.below{W W':World}{base:Nat}{S:Nat->Prop}{v:Value}{ls:List (Option (List Int))}(h:zJS W base S v ls)(hb:Below W.heap.size W W'):zJS W' base S v ls:=
 h.keep (Keep.of_below hb:Keep (fun _=>True) _ _) (fun _ h _=>⟨trivial,h⟩)
theorem OptV.grown{W w1 w2:World}{base n:Nat}{S:Nat->Prop}{v u:Value}{l:Option (List Int)}{vs:List Value}(ho:W.ownsRow base 24 1 v n vs)(h:OptV W base S l u)(hW1:Below W.heap.size W w1)(hg:w1.grownBy w2 v.ownBlock):OptV w2 base S l u:=by
 rcases h with (h|⟨x,b,cap,e,e2,h1,h2,h3,h4⟩)
 ·exact .inl h
 refine .inr ⟨x,b,cap,e,e2,h1,h2,h3.keep ((hg.block b (Nat.lt_of_lt_of_le h3.lt hW1.size) ?_).trans (hW1.block b h3.lt)),h4⟩
 rcases ho.2 with⟨rfl,_⟩|⟨g,cap,cur,rfl,hbg,hgg,_⟩
 ·simp[Value.ownBlock]
 ·intro e
  obtain rfl:b=g:=by simpa[Value.ownBlock]using e
  obtain⟨sp,h3⟩:=h3
  rw[h3]at hgg;cases hgg
theorem zJS.snoc{W w1 w2:World}{base:Nat}{S:Nat->Prop}{v v' u:Value}{ls:List (Option (List Int))}{l:Option (List Int)}{vs:List Value}
 (ho:W.ownsRow base 24 1 v ls.length vs)(he:∀j (hj:j<ls.length),∃u,vs[j]? =some u∧OptV W base S ls[j] u)(hu:OptV W base S l u)
 (hW1:Below W.heap.size W w1)(hg:w1.grownBy w2 v.ownBlock)(ho':w2.ownsRow base 24 1 v' (ls.length+1) (vs++[u]))(hS':∀k,v'.ownBlock=some k->S k):zJS w2 base S v' (ls++[l]):=by
 have hlen:vs.length=ls.length:=by have:=ho.1;omega
 have hel:∀u l,OptV W base S l u->OptV w2 base S l u:=fun u l h=>h.grown ho hW1 hg
 refine⟨vs++[u],by simpa using ho',hS',fun j hj=>?_⟩
 by_cases e:j<ls.length
 ·obtain⟨u',hu',hel'⟩:=he j e
  refine⟨u',by rw[List.getElem?_append_left (by omega)];exact hu',?_⟩
  rw[List.getElem_append_left e]
  exact hel _ _ hel'
 ·have:j=ls.length:=by simp at hj;omega
  subst this
  refine⟨u,by rw[List.getElem?_append_right (by omega),hlen];simp,?_⟩
  simp only[List.getElem_append_right (Nat.le_refl _),Nat.sub_self,List.getElem_cons_zero]
  exact hel _ _ hu
def OptsAt(W:World)(a:Option Addr)(os:List (Option (List Int))):Prop:=
 ∀j (hj:j<os.length),∃b off ra rn rc,a=some ⟨b,off,none⟩∧b<W.heap.size∧W.cell? ⟨b,off+j,none⟩=some (.slice ra rn rc)∧(os[j].getD []).length=rn∧rn<=maxLen∧zAE W ra (os[j].getD [])∧(ra=none↔os[j]=none)
theorem OptsAt.below{w w':World}{a:Option Addr}{l:List (Option (List Int))}(h:OptsAt w a l)(hb:Below w.heap.size w w'):OptsAt w' a l:=by
 intro j hj
 obtain⟨b,off,ra,n,cap,e,hlt,h0,hn,hm,hi,hnn⟩:=h j hj
 exact⟨b,off,ra,n,cap,e,Nat.lt_of_lt_of_le hlt hb.size,(hb.cell (p:=⟨b,_,none⟩) hlt).trans h0,hn,hm,hi.below hb,hnn⟩
end
section
open Go.RowKit
theorem named_of{W:Nat}{l:List Int}(h:zCE W l):zFC W l=0:=by
 have h1:ascB l=true:=by
  unfold ascB
  rw[decide_eq_true_eq]
  intro i hi
  rw[List.getElem?_eq_getElem (by omega),List.getElem?_eq_getElem (by omega)]
  exact List.pairwise_iff_getElem.1 h.1 i (i+1) (by omega) (by omega) (by omega)
 unfold zFC
 rw[if_pos h1,if_pos]
 rw[List.all_eq_true]
 intro p hp
 have:=h.2 p hp
 unfold inB;simp;omega
theorem pix_of{M:Mask}{S:List Int}(hM:okM M=true)(h:zCE (zAA M) S):pixE M S=0:=by unfold pixE;rw[if_pos hM,named_of h]
theorem zNR{M:Mask}{y S:List Int}(hM:okM M=true)(hy:y.length=M.length)(hmil:milB y=true)(h:zCE (zAA M) S):zBJ M y S=0:=by
 unfold zBJ;rw[if_pos hM,if_pos hy,if_pos hmil,pix_of hM h]
end
section
theorem fits_mem{M:Mask}{y:List Int}(hM:okM M=true)(hy:y.length=M.length)(hmil:milB y=true){f:FitT}:f∈zBE M y 10↔∃S,zCE (zAA M) S∧fitF M y S=some f:=by
 obtain⟨hO,hm1,_,hc1,hc10⟩:=zCN hM
 have hmil':∀v∈y,-1000000<=v∧v<=1000000:=fun v hv=>by have:=zHS hmil v hv;omega
 unfold zBE zBM
 rw[List.mem_flatMap]
 constructor
 ·rintro⟨j,_,hj⟩
  obtain⟨S,hS,hf⟩:=List.mem_filterMap.1 hj
  exact⟨S,comb_ok hS,hf⟩
 ·rintro⟨S,hS,hf⟩
  obtain⟨_,h1,_⟩:=zJZ hf
  have hsv:zCM M S y=zAQ (zAF (zAW M S) y) S.length:=by unfold zCM;rw[if_pos (zNR hM hy hmil hS)]
  rw[hsv]at h1
  obtain⟨hr,_⟩:=solve_to (hO.cols S) (by rw[zBR];exact hy) hmil' h1
  have hrk:=rank_le (hO.cols S)
  rw[hr,zBR]at hrk
  have hW:=set_le hS
  refine⟨S.length,List.mem_range.2 (by omega),List.mem_filterMap.2 ⟨S,zIC (zAA M) 0 S hS.1 (fun y hy=>by have:=hS.2 y hy;omega),hf⟩⟩
theorem sum_supp{n:Nat}{k:Nat->Int}(r:Nat->Int):sm (fun i=>zFB (zAT n k) r i*vec ((zAT n k).map fun j=>k j.toNat) i) (zAT n k).length=sm (fun c=>r c*k c) n:=by
 have hS:=zDE n k
 rw[<- zGL hS r _ (Nat.le_refl _)]
 unfold dotS
 refine zAG fun c hc=>?_
 rw[zGS hS (fun j hj hm=>?_) hc]
 rcases Classical.em (k j=0)with c|c
 ·exact c
 ·exact absurd (zBL.2 ⟨hj,c⟩) hm
theorem nrm_supp{n:Nat}{k:Nat->Int}:nrmI (vec ((zAT n k).map fun j=>k j.toNat)) (zAT n k).length=nrmI k n:=by
 have h:=sum_supp (n:=n) (k:=k) (fun c=>sgnI (k c))
 have e1:sm (fun c=>sgnI (k c)*k c) n=nrmI k n:=zAG fun c _=>zHJ _
 rw[e1]at h
 rw[<- h]
 refine zAG fun i hi=>?_
 have e2:vec ((zAT n k).map fun j=>k j.toNat) i=k ((zAT n k)[i]).toNat:=by unfold vec;rw[List.getElem?_map,List.getElem?_eq_getElem hi];rfl
 have e3:zFB (zAT n k) (fun c=>sgnI (k c)) i=sgnI (k ((zAT n k)[i]).toNat):=by unfold zFB;rw[List.getElem?_eq_getElem hi]
 rw[e2,e3,zHJ]
theorem fit_of_sol{M:Mask}{y:List Int}(hM:okM M=true)(hy:y.length=M.length)(hmil:milB y=true){k:Nat->Int}{E:Int}(hk:SolM M (zAA M) y k E)(hr:zEU (zAW M (zAT (zAA M) k)) (zAT (zAA M) k).length=(zAT (zAA M) k).length):
 ∃f,f∈zBE M y 10∧f.1=zAT (zAA M) k∧f.2.length=f.1.length∧(∀i,i<f.1.length->(zAC f.2 i).1*E=k ((f.1[i]?.getD 0).toNat)*(zAC f.2 i).2)∧(∀i,0<(zAC f.2 i).2)∧(nrmQ f.2).1*E=(nrmQ f.2).2*nrmI k (zAA M)∧0<(nrmQ f.2).2:=by
 obtain⟨hO,hm1,_,hc1,hc10⟩:=zCN hM
 have hmil':∀v∈y,-1000000<=v∧v<=1000000:=fun v hv=>by have:=zHS hmil v hv;omega
 have hS:=zDE (zAA M) k
 have hy':y.length=(zAW M (zAT (zAA M) k)).length:=by rw[zBR];exact hy
 have hsys:∀q,q<(zAW M (zAT (zAA M) k)).length->sm (fun i=>rowv (zAW M (zAT (zAA M) k)) q i*vec ((zAT (zAA M) k).map fun j=>k j.toNat) i) (zAT (zAA M) k).length=vec y q*E:=by
  intro q hq
  rw[zBR]at hq
  rw[zGN,sum_supp,hk.2 q hq]
 obtain⟨k1,k2,k3⟩:=solve_of (hO.cols _) hy' hmil' hr (show E≠0 by have:=hk.1;omega) hsys
 obtain⟨_,_,_,_,_,_,_,hpos,_,_⟩:=zFT (hO.cols _) hy' hmil' k1
 have hsv:zCM M (zAT (zAA M) k) y=zAQ (zAF (zAW M (zAT (zAA M) k)) y) (zAT (zAA M) k).length:=by unfold zCM;rw[if_pos (zNR hM hy hmil hS)]
 have hvk:∀i (hi:i<(zAT (zAA M) k).length),vec ((zAT (zAA M) k).map fun j=>k j.toNat) i=k ((zAT (zAA M) k)[i]).toNat:=fun i hi=>by unfold vec;rw[List.getElem?_map,List.getElem?_eq_getElem hi];rfl
 obtain⟨P,hP⟩:=exq (zAQ (zAF (zAW M (zAT (zAA M) k)) y) (zAT (zAA M) k).length)
 rw[<- hP]at k1 k2 k3 hpos hsv
 have hfit:fitF M y (zAT (zAA M) k)=some (zAT (zAA M) k,P.1):=by
  unfold fitF
  rw[hsv,if_pos]
  refine⟨k1,List.all_eq_true.2 fun r hr=>?_⟩
  obtain⟨i,hi,rfl⟩:=List.mem_iff_getElem.1 hr
  have hi':i<(zAT (zAA M) k).length:=by omega
  obtain⟨c1,c2,_⟩:=k3 i hi'
  have e1:zAC P.1 i=P.1[i]:=by unfold zAC;rw[List.getElem?_eq_getElem hi];rfl
  rw[e1,hvk i hi']at c1
  rw[e1]at c2
  have h0:k ((zAT (zAA M) k)[i]).toNat≠0:=by
   have hm:=List.getElem_mem hi'
   have hb:=hS.get hi'
   rw[show(zAT (zAA M) k)[i]=((((zAT (zAA M) k)[i]).toNat:Nat):Int)by omega]at hm
   exact(zBL.1 hm).2
  rw[decide_eq_true_eq]
  intro e
  rw[e,Int.zero_mul]at c1
  exact Int.mul_ne_zero h0 (by omega) c1.symm
 have hvals:∀i,i<(zAT (zAA M) k).length->(zAC P.1 i).1*E=vec ((zAT (zAA M) k).map fun j=>k j.toNat) i*(zAC P.1 i).2:=fun i hi=>(k3 i hi).1
 have hn:=zFV hk.1 hpos (zAT (zAA M) k).length hvals
 rw[nrm_supp]at hn
 have hq:nrmQ P.1=zCH P.1 (zAT (zAA M) k).length:=by unfold nrmQ;rw[k2]
 refine⟨(zAT (zAA M) k,P.1),(fits_mem hM hy hmil).2 ⟨_,hS,hfit⟩,rfl,k2,fun i hi=>?_,hpos,by rw[hq];exact hn,by rw[hq];exact(zHP hpos _).1⟩
 have hi':i<(zAT (zAA M) k).length:=hi
 have:=hvals i hi'
 rw[hvk i hi']at this
 show(zAC P.1 i).1*E=k (((zAT (zAA M) k)[i]?.getD 0).toNat)*(zAC P.1 i).2
 rw[List.getElem?_eq_getElem hi']
 exact this
theorem zME{M:Mask}{y:List Int}(hM:okM M=true)(hy:y.length=M.length)(hmil:milB y=true){l:Nat->Int}{D:Int}(hl:SolM M (zAA M) y l D):
 ∃f,f∈zBE M y 10∧0<(nrmQ f.2).2∧(nrmQ f.2).1*D<=nrmI l (zAA M)*(nrmQ f.2).2:=by
 obtain⟨hO,_⟩:=zCN hM
 obtain⟨k,E,h1,h2,_,h4⟩:=lp_norm hO hl
 obtain⟨f,f1,_,_,_,_,f2,f3⟩:=fit_of_sol hM hy hmil h1 h2
 refine⟨f,f1,f3,?_⟩
 have hE:=h1.1
 -- (n*D)*E<=(N*d)*E
 have e:(nrmQ f.2).1*D*E<=nrmI l (zAA M)*(nrmQ f.2).2*E:=by
  have e1:(nrmQ f.2).1*D*E=(nrmQ f.2).2*(nrmI k (zAA M)*D):=by
   have:(nrmQ f.2).1*D*E=((nrmQ f.2).1*E)*D:=by grind
   rw[this,f2];grind
  have e2:nrmI l (zAA M)*(nrmQ f.2).2*E=(nrmQ f.2).2*(nrmI l (zAA M)*E):=by grind
  rw[e1,e2]
  exact Int.mul_le_mul_of_nonneg_left h4 (by omega)
 exact Int.le_of_mul_le_mul_right e hE
theorem zDZ{M:Mask}{y:List Int}(hM:okM M=true)(hy:y.length=M.length)(hmil:milB y=true){f:FitT}(hf:f∈zBE M y 10):
 zCE (zAA M) f.1∧f.2.length=f.1.length∧f.2.all zAJ=true∧(∀r∈f.2,r.1≠0)∧0<(nrmQ f.2).2∧zAJ (zBC (nrmQ f.2).1 (nrmQ f.2).2)=true∧zEU (zAW M f.1) f.1.length=f.1.length∧
  ∃(l:Nat->Int) (D:Int),SolM M (zAA M) y l D∧D<=288∧(∀c,c<zAA M->(c:Int)∉f.1->l c=0)∧(∀i (hi:i<f.1.length),(zAC f.2 i).1*D=l (f.1[i]).toNat*(zAC f.2 i).2)∧(nrmQ f.2).1*D=(nrmQ f.2).2*nrmI l (zAA M):=by
 obtain⟨hO,hm1,_,hc1,hc10⟩:=zCN hM
 have hmil':∀v∈y,-1000000<=v∧v<=1000000:=fun v hv=>by have:=zHS hmil v hv;omega
 obtain⟨S,hS,hfit⟩:=(fits_mem hM hy hmil).1 hf
 obtain⟨rfl,h1,h2⟩:=zJZ hfit
 have hsv:zCM M S y=zAQ (zAF (zAW M S) y) S.length:=by unfold zCM;rw[if_pos (zNR hM hy hmil hS)]
 rw[hsv]at h1 h2⊢
 have hy':y.length=(zAW M S).length:=by rw[zBR];exact hy
 obtain⟨l,D,hD,hD288,k1,_,k3,hpos,hr,hv⟩:=zFT (hO.cols S) hy' hmil' h1
 obtain⟨n1,n2⟩:=solve_norm (hO.cols S) hy' hmil' h1
 have hlen:=zLU h1
 obtain⟨P,hP⟩:=exq ((zAQ (zAF (zAW M S) y) S.length).1)
 rw[<- hP]at h2 k1 hpos hv n1 n2 hlen⊢
 have hq:nrmQ P=zCH P S.length:=by unfold nrmQ;rw[hlen]
 -- spread
 have hL:((List.range S.length).map l).length=S.length:=by simp
 have hvL:∀i,i<S.length->vec ((List.range S.length).map l) i=l i:=fun i hi=>by unfold vec;rw[List.getElem?_map,List.getElem?_range hi];rfl
 have hin:∀i (hi:i<S.length),vec (zAP (zAA M) S ((List.range S.length).map l) S.length) (S[i]).toNat=l i:=fun i hi=>by
  rw[zDQ hS S.length (Nat.le_refl _) i hi hi]
  exact hvL i hi
 have hsum:∀r:Nat->Int,sm (fun i=>zFB S r i*l i) S.length=sm (fun c=>r c*vec (zAP (zAA M) S ((List.range S.length).map l) S.length) c) (zAA M):=fun r=>by
  have:=zGL (l:=(List.range S.length).map l) hS r S.length (Nat.le_refl _)
  unfold dotS at this
  rw[this]
  exact zAG fun i hi=>by rw[hvL i hi]
 refine⟨hS,hlen,List.all_eq_true.2 fun r hr=>?_,h2,by rw[hq];exact n1,by rw[hq];exact n2,hr,vec (zAP (zAA M) S ((List.range S.length).map l) S.length),D,⟨hD,fun q hq=>?_⟩,hD288,fun c hc hn=>zEY hS hn S.length (Nat.le_refl _),fun i hi=>by rw[hin i hi];exact k1 i hi,?_⟩
 ·obtain⟨i,hi,rfl⟩:=List.mem_iff_getElem.1 hr
  have:=hv i
  unfold zAC at this
  rw[List.getElem?_eq_getElem hi]at this
  exact this
 ·have:=k3.2 q (by rw[zBR];exact hq)
  rw[zGN,hsum]at this
  exact this
 ·rw[hq,zFV hD hpos S.length k1]
  congr 1
  have h:=hsum (fun c=>sgnI (vec (zAP (zAA M) S ((List.range S.length).map l) S.length) c))
  have e1:sm (fun c=>sgnI (vec (zAP (zAA M) S ((List.range S.length).map l) S.length) c)*vec (zAP (zAA M) S ((List.range S.length).map l) S.length) c) (zAA M)=nrmI (vec (zAP (zAA M) S ((List.range S.length).map l) S.length)) (zAA M):=zAG fun c _=>zHJ _
  rw[e1]at h
  rw[<- h]
  refine zAG fun i hi=>?_
  have e3:zFB S (fun c=>sgnI (vec (zAP (zAA M) S ((List.range S.length).map l) S.length) c)) i=sgnI (l i):=by
   unfold zFB;rw[List.getElem?_eq_getElem hi]
   simp only[]
   rw[hin i hi]
  rw[e3,zHJ]
end
section
def zAZ:List Int->List Int->Bool
 | [],[]=>false
 | [],_::_=>true
 |_::_,[]=>false
 |x::a,y::b=>if x=y then zAZ a b else decide (x<y)
theorem zGW:∀a,zAZ a a=false
 | []=>rfl
 |x::a=>by unfold zAZ;rw[if_pos rfl];exact zGW a
theorem zEI:∀a b,a=b∨zAZ a b=true∨zAZ b a=true
 | [],[]=>.inl rfl
 | [],_::_=>.inr (.inl rfl)
 |_::_,[]=>.inr (.inr rfl)
 |x::a,y::b=>by
  by_cases e:x=y
  ·subst e
   rcases zEI a b with h|h|h
   ·exact .inl (by rw[h])
   ·exact .inr (.inl (by unfold zAZ;rw[if_pos rfl];exact h))
   ·exact .inr (.inr (by unfold zAZ;rw[if_pos rfl];exact h))
  ·rcases Int.lt_or_gt_of_ne e with h|h
   ·exact .inr (.inl (by unfold zAZ;rw[if_neg e];simpa using h))
   ·exact .inr (.inr (by unfold zAZ;rw[if_neg (fun h=>e h.symm)];simpa using h))
theorem zGC:∀{a b},zAZ a b=true->zAZ b a=false
 | [],[],h=>by cases h
 | [],_::_,_=>rfl
 |_::_,[],h=>by cases h
 |x::a,y::b,h=>by
  unfold zAZ at h⊢
  by_cases e:x=y
  ·subst e;rw[if_pos rfl]at h⊢;exact zGC h
  ·rw[if_neg e]at h
   rw[if_neg (fun h=>e h.symm)]
   have:x<y:=by simpa using h
   rw[decide_eq_false_iff_not];omega
theorem zDV:∀{a b c},zAZ a b=true->zAZ b c=true->zAZ a c=true
 | [],_,[],_,h=>by rename_i b _;cases b<;>cases h
 | [],_,_::_,_,_=>rfl
 |_::_,[],_,h,_=>by cases h
 |_::_,_::_,[],_,h=>by cases h
 |x::a,y::b,z::c,h1,h2=>by
  unfold zAZ at h1 h2⊢
  by_cases e:x=y
  ·subst e
   rw[if_pos rfl]at h1
   by_cases e2:x=z
   ·subst e2;rw[if_pos rfl]at h2⊢;exact zDV h1 h2
   ·rw[if_neg e2]at h2⊢;exact h2
  ·rw[if_neg e]at h1
   have h1':x<y:=by simpa using h1
   by_cases e2:y=z
   ·subst e2;rw[if_neg e];exact h1
   ·rw[if_neg e2]at h2
    have h2':y<z:=by simpa using h2
    rw[if_neg (by omega)];simp;omega
def zAU(f:FitT):Rt:=zBC (nrmQ f.2).1 (nrmQ f.2).2
def cmpF(r s:Rt):Int:=cmpR r.1 r.2 s.1 s.2
def stepC(s:Rt×List FitT)(f:FitT):Rt×List FitT:=
 if s.2=[]∨cmpF (zAU f) s.1<0 then(zAU f,[f])else if cmpF (zAU f) s.1=0 then(s.1,s.2++[f])else s
def zBD(l:List FitT):Rt×List FitT:=l.foldl stepC ((0,0),[])
theorem zIP(l:List FitT)(f:FitT):zBD (l++[f])=stepC (zBD l) f:=by unfold zBD;rw[List.foldl_append];rfl
theorem cmpF_pos{r s:Rt}(hr:0<r.2)(hs:0<s.2):cmpF r s=cmpI (r.1*s.2) (s.1*r.2):=by
 unfold cmpF cmpR dF;rw[if_neg (by omega),if_neg (by omega)]
theorem cmpF_neg{r s:Rt}(hr:0<r.2)(hs:0<s.2):cmpF r s<0↔r.1*s.2<s.1*r.2:=by
 rw[cmpF_pos hr hs];unfold cmpI;split<;>(try split)<;>omega
theorem cmpF_zero{r s:Rt}(hr:0<r.2)(hs:0<s.2):cmpF r s=0↔r.1*s.2=s.1*r.2:=by
 rw[cmpF_pos hr hs];unfold cmpI;split<;>(try split)<;>omega
theorem low_eq{r s:Rt}(hr:zAJ r=true)(hs:zAJ s=true)(h:r.1*s.2=s.1*r.2):r=s:=by
 obtain⟨r1,r2⟩:=r
 obtain⟨s1,s2⟩:=s
 obtain⟨a1,_,_,_,a5⟩:=zBB.1 hr
 obtain⟨b1,_,_,_,b5⟩:=zBB.1 hs
 simp only[]at*
 rw[<- zEO a5,<- zEO b5]
 exact zHK (by omega) (by omega) h
theorem zEA:∀(l:List FitT),(∀f∈l,zAJ (zAU f)=true)->(l=[]->zBD l=((0,0),[]))∧(l≠[]->(zBD l).2≠[]∧(∃f∈l,(zBD l).1=zAU f)∧
 (∀f∈l,(zBD l).1.1*(zAU f).2<=(zAU f).1*(zBD l).1.2)∧(zBD l).2=l.filter (fun f=>decide (zAU f=(zBD l).1))):=by
 intro l
 induction hn:l.length generalizing l with
 |zero=>
  intro _
  have:l=[]:=List.length_eq_zero_iff.1 hn
  subst this
  exact⟨fun _=>rfl,fun h=>absurd rfl h⟩
 |succ n ih=>
  intro hv
  obtain⟨m,f,rfl⟩:∃m f,l=m++[f]:=⟨l.dropLast,l.getLast (by intro e;rw[e]at hn;simp at hn),(List.dropLast_concat_getLast _).symm⟩
  have hml:m.length=n:=by simpa using hn
  have hvm:∀g∈m,zAJ (zAU g)=true:=fun g hg=>hv g (List.mem_append_left _ hg)
  have hvf:zAJ (zAU f)=true:=hv f (by simp)
  have pf:0<(zAU f).2:=by have:=(zBB.1 hvf).1;omega
  obtain⟨i1,i2⟩:=ih m hml hvm
  refine⟨fun h=>by simp at h,fun _=>?_⟩
  rw[zIP]
  by_cases hm:m=[]
  ·subst hm
   have e:stepC (zBD []) f=(zAU f,[f]):=by unfold stepC;rw[if_pos (.inl rfl)]
   rw[List.nil_append,e]
   exact⟨by simp,⟨f,by simp,rfl⟩,fun g hg=>by rw[List.mem_singleton.1 hg];exact Int.le_refl _,by simp⟩
  ·obtain⟨j1,⟨g0,hg0,j2⟩,j3,j4⟩:=i2 hm
   have ps:0<(zBD m).1.2:=by rw[j2];have:=(zBB.1 (hvm g0 hg0)).1;omega
   have vs:zAJ (zBD m).1=true:=by rw[j2];exact hvm g0 hg0
   unfold stepC
   by_cases c1:(zBD m).2=[]∨cmpF (zAU f) (zBD m).1<0
   ·rw[if_pos c1]
    have c2:(zAU f).1*(zBD m).1.2<(zBD m).1.1*(zAU f).2:=by
     rcases c1 with c|c
     ·exact absurd c j1
     ·exact(cmpF_neg pf ps).1 c
    have hlt:∀g∈m,(zAU f).1*(zAU g).2<(zAU g).1*(zAU f).2:=fun g hg=>by
     have h1:=j3 g hg
     have pg:0<(zAU g).2:=by have:=(zBB.1 (hvm g hg)).1;omega
     have e1:(zAU f).1*(zBD m).1.2*(zAU g).2<(zBD m).1.1*(zAU f).2*(zAU g).2:=Int.mul_lt_mul_of_pos_right c2 pg
     have e2:(zBD m).1.1*(zAU g).2*(zAU f).2<=(zAU g).1*(zBD m).1.2*(zAU f).2:=Int.mul_le_mul_of_nonneg_right h1 (by omega)
     have e3:(zAU f).1*(zAU g).2*(zBD m).1.2<(zAU g).1*(zAU f).2*(zBD m).1.2:=by
      have x1:(zAU f).1*(zAU g).2*(zBD m).1.2=(zAU f).1*(zBD m).1.2*(zAU g).2:=by grind
      have x2:(zBD m).1.1*(zAU f).2*(zAU g).2=(zBD m).1.1*(zAU g).2*(zAU f).2:=by grind
      have x3:(zAU g).1*(zAU f).2*(zBD m).1.2=(zAU g).1*(zBD m).1.2*(zAU f).2:=by grind
      omega
     exact Int.lt_of_mul_lt_mul_right e3 (by omega)
    refine⟨by simp,⟨f,by simp,rfl⟩,fun g hg=>?_,?_⟩
    ·rcases List.mem_append.1 hg with h|h
     ·exact Int.le_of_lt (hlt g h)
     ·rw[List.mem_singleton.1 h];exact Int.le_refl _
    ·rw[List.filter_append]
     have:m.filter (fun g=>decide (zAU g=zAU f))=[]:=by
      rw[List.filter_eq_nil_iff]
      intro g hg
      rw[decide_eq_true_eq]
      intro e
      have:=hlt g hg
      rw[e]at this
      omega
     show [f]=_
     rw[this];simp
   ·rw[if_neg c1]
    have c1':¬cmpF (zAU f) (zBD m).1<0:=fun h=>c1 (.inr h)
    have c3:(zBD m).1.1*(zAU f).2<=(zAU f).1*(zBD m).1.2:=by
     rcases Int.lt_or_le ((zAU f).1*(zBD m).1.2) ((zBD m).1.1*(zAU f).2)with h|h
     ·exact absurd ((cmpF_neg pf ps).2 h) c1'
     ·exact h
    have hle:∀g∈m++[f],(zBD m).1.1*(zAU g).2<=(zAU g).1*(zBD m).1.2:=fun g hg=>by
     rcases List.mem_append.1 hg with h|h
     ·exact j3 g h
     ·rw[List.mem_singleton.1 h];exact c3
    by_cases c2:cmpF (zAU f) (zBD m).1=0
    ·rw[if_pos c2]
     have e:zAU f=(zBD m).1:=low_eq hvf vs ((cmpF_zero pf ps).1 c2)
     refine⟨by simp,⟨g0,List.mem_append_left _ hg0,j2⟩,hle,?_⟩
     rw[List.filter_append,<- j4]
     simp[e]
    ·rw[if_neg c2]
     refine⟨j1,⟨g0,List.mem_append_left _ hg0,j2⟩,hle,?_⟩
     rw[List.filter_append,<- j4]
     have:¬zAU f=(zBD m).1:=fun e=>c2 ((cmpF_zero pf ps).2 (by rw[e]))
     simp[this]
def AscF(l:List FitT):Prop:=l.Pairwise (fun f g=>zAZ f.1 g.1=true)
theorem asc_uniq{l m:List FitT}(hl:AscF l)(hm:AscF m)(h:l.Perm m):l=m:=
 List.Perm.eq_of_pairwise (fun a b _ _ h1 h2=>by rw[zGC h1]at h2;cases h2) hl hm h
def insC(f:FitT):List FitT->List FitT
 | []=>[f]
 |g::l=>if zAZ f.1 g.1=true then f::g::l else g::insC f l
def zHH(l:List FitT):List FitT:=l.foldl (fun o f=>insC f o) []
theorem zHW(f:FitT):∀l,(insC f l).Perm (f::l)
 | []=>List.Perm.refl _
 |g::l=>by
  unfold insC
  split
  ·exact List.Perm.refl _
  ·exact((zHW f l).cons g).trans (List.Perm.swap f g l)
theorem insC_asc{f:FitT}:∀{l:List FitT},AscF l->(∀g∈l,g.1≠f.1)->AscF (insC f l)
 | [],_,_=>by unfold insC AscF;simp
 |g::l,h,hn=>by
  unfold AscF at h
  rw[List.pairwise_cons]at h
  unfold insC
  split
  ·rename_i c
   unfold AscF
   rw[List.pairwise_cons]
   refine⟨fun x hx=>?_,List.pairwise_cons.2 h⟩
   rcases List.mem_cons.1 hx with rfl|hx
   ·exact c
   ·exact zDV c (h.1 x hx)
  ·rename_i c
   have ih:=insC_asc (f:=f) h.2 (fun x hx=>hn x (by simp[hx]))
   unfold AscF
   rw[List.pairwise_cons]
   refine⟨fun x hx=>?_,ih⟩
   rcases List.mem_cons.1 ((zHW f l).mem_iff.1 hx)with rfl|hx
   ·rcases zEI x.1 g.1 with e|e|e
    ·exact absurd e.symm (hn g (by simp))
    ·exact absurd e c
    ·exact e
   ·exact h.1 x hx
theorem zGG:∀{l:List FitT},(l.map (·.1)).Nodup->AscF (zHH l)∧(zHH l).Perm l:=by
 intro l
 induction hn:l.length generalizing l with
 |zero=>
  intro _
  have:l=[]:=List.length_eq_zero_iff.1 hn
  subst this
  exact⟨List.Pairwise.nil,List.Perm.refl _⟩
 |succ n ih=>
  intro hd
  obtain⟨m,f,rfl⟩:∃m f,l=m++[f]:=⟨l.dropLast,l.getLast (by intro e;rw[e]at hn;simp at hn),(List.dropLast_concat_getLast _).symm⟩
  rw[List.map_append,List.nodup_append]at hd
  obtain⟨h1,h2⟩:=ih (by simpa using hn) hd.1
  have e:zHH (m++[f])=insC f (zHH m):=by unfold zHH;rw[List.foldl_append];rfl
  rw[e]
  refine⟨insC_asc h1 fun g hg e=>?_,(zHW f _).trans ((h2.cons f).trans (List.perm_append_singleton f m).symm)⟩
  have hg':=h2.mem_iff.1 hg
  exact hd.2.2 g.1 (List.mem_map.2 ⟨g,hg',rfl⟩) f.1 (by simp) e
def zFK(M:Mask)(y:List Int):List FitT:=zHH (zBD (zBE M y 10)).2
end
section
theorem sortC_snoc(l:List FitT)(f:FitT):zHH (l++[f])=insC f (zHH l):=by unfold zHH;rw[List.foldl_append];rfl
theorem zIN:∀l:List FitT,(zHH l).Perm l:=by
 intro l
 induction hn:l.length generalizing l with
 |zero=>
  have:l=[]:=List.length_eq_zero_iff.1 hn
  subst this;exact List.Perm.refl _
 |succ n ih=>
  obtain⟨m,f,rfl⟩:∃m f,l=m++[f]:=⟨l.dropLast,l.getLast (by intro e;rw[e]at hn;simp at hn),(List.dropLast_concat_getLast _).symm⟩
  rw[sortC_snoc]
  exact(zHW f _).trans (((ih m (by simpa using hn)).cons f).trans (List.perm_append_singleton f m).symm)
end
end Go.Proofs.YtlffndehhhpgjaaGreat
