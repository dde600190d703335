/- Walks and plain laws for DualLeastRow, part 17. -/
import Derived.Test.YtlffndehhhpgjaaGreatPkDualLeastRow16
namespace Go.Proofs.YtlffndehhhpgjaaGreat
set_option linter.unusedVariables false
set_option linter.unusedSimpArgs false
set_option maxRecDepth 100000
set_option maxHeartbeats 4000000
section
open Go.RowKit
def CornR (M : Mask) (Y : List Int) (e : Ending) (w' : World) : Prop :=
 (rdE M Y ≠ 0 ∧ e = .returned (.tuple #[.slice none 0 0, .int .i64 (rdE M Y)])) ∨ (rdE M Y = 0 ∧ zBH M Y 10 = [] ∧ e = .returned (.tuple #[.slice none 0 0, .int .i64 10])) ∨
   (rdE M Y = 0 ∧ zBH M Y 10 ≠ [] ∧ ∃ a c, e = .returned (.tuple #[.slice a (zGT M Y).length c, .int .i64 0]) ∧ zGW w' a (zGT M Y))
theorem cmpQ_S {f g : FitT} (hf : f.2.all zAJ = true) (hg : g.2.all zAJ = true) : cmpI ((zFQ f.2).1 * (zFQ g.2).2) ((zFQ g.2).1 * (zFQ f.2).2) = cmpQ f g := by
 have pf := zMQ hf
 have pg := zMQ hg
 obtain ⟨e1, h1⟩ := nrmSQ_Q pf
 obtain ⟨e2, h2⟩ := nrmSQ_Q pg
 exact cmp_same e1 e2 h1 h2 (zFG pf _).1 (zFG pg _).1
theorem ins_set {T : List FitT} {f : FitT} {p : Nat} (hp : p < T.length) :
 ((T.take (p + 1) ++ f :: T.drop (p + 1)).set (p + 1) T[p]).set p f = T.take p ++ f :: T.drop p := by
 have h1 : T.take (p + 1) = T.take p ++ [T[p]] := List.take_succ_eq_append_getElem hp
 have h2 : T.drop p = T[p] :: T.drop (p + 1) := List.drop_eq_getElem_cons hp
 have hl : (T.take p).length = p := by simp; omega
 rw [h1, h2]
 have e1 : (T.take p ++ [T[p]] ++ f :: T.drop (p + 1)).set (p + 1) T[p] = T.take p ++ [T[p]] ++ T[p] :: T.drop (p + 1) := by
  rw [List.set_append_right _ _ (by simp; omega)]
  rw [show p + 1 - (T.take p ++ [T[p]]).length = 0 by simp; omega]; rfl
 rw [e1, List.append_assoc, List.set_append_right _ _ (by omega), hl]
 simp
theorem ins_get {T : List FitT} {f : FitT} {p : Nat} (hp : p < T.length) : (T.take (p + 1) ++ f :: T.drop (p + 1))[p]? = some T[p] ∧ (T.take (p + 1) ++ f :: T.drop (p + 1))[p + 1]? = some f ∧ (T.take (p + 1) ++ f :: T.drop (p + 1)).length = T.length + 1 := by
 have hl : (T.take (p + 1)).length = p + 1 := by simp; omega
 refine ⟨?_, ?_, ?_⟩
 ·rw [List.getElem?_append_left (by omega), List.getElem?_take, if_pos (by omega), List.getElem?_eq_getElem hp]
 ·rw [List.getElem?_append_right (by omega), hl]; simp
 ·simp; omega
theorem refC_len : ∀ l : List FitT, (refC l).length <= l.length := by
 intro l
 induction hn : l.length generalizing l with
 | zero =>
   have : l = [] := List.length_eq_zero_iff.1 hn
   subst this; simp [refC]
 | succ n ih =>
   obtain ⟨m, f, rfl⟩ : ∃ m f, l = m ++ [f] := ⟨l.dropLast, l.getLast (by intro e; rw [e] at hn; simp at hn), (List.dropLast_concat_getLast _).symm⟩
   rw [zLJ]
   have h1 := ih m (by simpa using hn)
   unfold stepR
   split
   ·simp
   ·rename_i g t e
    rw [e] at h1
    split
    ·omega
    ·split
     ·simp
     ·have := (zFI f (g :: t)).length_eq
      rw [this]; simp at h1 ⊢; omega
theorem r5corners_c (w : World) (a a2 : Option Addr) (n cap n2 cap2 : Nat) (M : Mask) (Y : List Int) (hn : M.length = n) (hn2 : Y.length = n2) (hm : n <= maxLen) (hm2 : n2 <= maxLen) (H : zAO w a M) (H2 : zAK w a2 Y) :
 Calls Tryz.prog 86 #[.slice a n cap, .slice a2 n2 cap2] w fun e w' => CornR M Y e w' ∧ Below w.heap.size w w' := by
 have HRD := hid (r3Read_c w a a2 n cap n2 cap2 M Y hn hn2 hm hm2 H H2)
 by_cases h0 : rdE M Y = 0
 rotate_left
 ·have HP := hid (show ∀ e w', Below w.heap.size w w' -> e = .returned (.tuple #[.slice none 0 0, .int .i64 (rdE M Y)]) -> CornR M Y e w' ∧ Below w.heap.size w w' from fun e w' h1 h2 => ⟨.inl ⟨h0, h2⟩, h1⟩)
  have hne : (rdE M Y != 0) = true := by simpa using h0
  obtain ⟨E, hE⟩ := exq (rdE M Y)
  rw [<- hE] at HRD hne HP
  clear hn hn2 H H2 h0 hE
  go_enter Tryz.func86, Tryz.ntmps86
  go_wp2_with (go_at_call 71; refine HRD.out.mono ?_; rintro e w1 ⟨rfl, rfl⟩; refine Stop.of ?_)
  refine Stop.go ?_
  go_wp2
  go_ret2
  exact HP.out _ _ (Below.refl _ _) rfl
 obtain ⟨hok, hyl, hmil⟩ := zMV h0
 obtain ⟨hM, h1, h6, hc1, hc10⟩ := zCR hok
 rw [h0] at HRD
 have HAL := hid (fun (X : World) (hX : Below w.heap.size w X) => r4All_c X a a2 n cap n2 cap2 M Y hn hn2 hm hm2 (H.below hX) (H2.below hX) hok)
 rw [zGV hc10] at HAL
 have HFV := hid (fun (f : FitT) (hf : f ∈ zBH M Y 10) => show f.2.length <= 10 ∧ f.2.all zAJ = true ∧ f.1.length <= 10 from by
  obtain ⟨k1, k2, k3, _⟩ := zEB hok hyl hmil hf
  have := (zHP (show f ∈ allF M Y by rw [zGV hc10]; exact hf)).2.2
  exact ⟨by omega, k3, by omega⟩)
 have HRC := hid (fun k => refC_eq ((zBH M Y 10).take k) (fun f hf => zFJ hok hyl hmil f (List.mem_of_mem_take hf)) (((zHH (y := Y) hok).sublist ((List.take_sublist k _).map _))))
 have HND := hid (zHH (y := Y) hok)
 have HCF := hid (show refC (zBH M Y 10) = zGT M Y from (refC_eq (zBH M Y 10) (fun f hf => zFJ hok hyl hmil f hf) (zHH hok)).1)
 have HCN := hid (fun h => corn_ne h0 h)
 have HP0 := hid (show ∀ e w', Below w.heap.size w w' -> zBH M Y 10 = [] -> e = .returned (.tuple #[.slice none 0 0, .int .i64 10]) -> CornR M Y e w' ∧ Below w.heap.size w w' from fun e w' h1 h2 h3 => ⟨.inr (.inl ⟨h0, h2, h3⟩), h1⟩)
 have HP1 := hid (show ∀ e w', Below w.heap.size w w' -> zBH M Y 10 ≠ [] -> (∃ a c, e = .returned (.tuple #[.slice a (zGT M Y).length c, .int .i64 0]) ∧ zGW w' a (zGT M Y)) -> CornR M Y e w' ∧ Below w.heap.size w w' from fun e w' h1 h2 h3 => ⟨.inr (.inr ⟨h0, h2, h3⟩), h1⟩)
 obtain ⟨F, hF⟩ := exq (zBH M Y 10)
 obtain ⟨C, hC⟩ := exq (zGT M Y)
 rw [<- hF] at HAL HFV HRC HND HCF HCN HP0 HP1
 rw [<- hC] at HCF HCN HP1
 have HFL := hid (show F.length <= 11264 by
  rw [hF]
  have h3 := zER M Y (zAF M) (min (min 10 (zAF M)) M.length + 1)
  have h4 : zBH M Y 10 = zBQ M Y (zAF M) (min (min 10 (zAF M)) M.length + 1) := rfl
  rw [h4]
  have h5 : (min (min 10 (zAF M)) M.length + 1) * 2 ^ zAF M <= 11 * 2 ^ 10 := Nat.mul_le_mul (by omega) (Nat.pow_le_pow_right (by decide) hc10)
  omega)
 clear hn hn2 H H2 h0 hok hyl hmil hM h1 h6 hc1 hc10 hF hC
 go_enter Tryz.func86, Tryz.ntmps86
 go_wp2_with (go_at_call 71; refine HRD.out.mono ?_; rintro e w1 ⟨rfl, rfl⟩; refine Stop.of ?_)
 refine Stop.go ?_
 go_wp2_with (go_at_call 157; refine (HAL.out _ (Below.refl _ _)).mono ?_; rintro e X ⟨vF, base, rfl, hbase, hFO, hbX⟩; refine Stop.of ?_)
 refine Stop.go ?_
 obtain ⟨fa, fc, rfl, hFm, hFA⟩ := hFO.reads
 have HFA := hid hFA
 have HBX := hid hbX
 clear hFO hFA hbX hbase
 go_wp2
 go_loopw [7, 23] (fun v i wr => ∃ k : Nat, k <= F.length ∧ i = .int .i64 k ∧ TabF X wr v (refC (F.take k)) ∧ Below X.heap.size X wr) (fun _ i _ => F.length - (intOf i).toNat)
 case atStart => exact ⟨0, Nat.zero_le _, rfl, TabF.nil _ _, Below.refl _ _⟩
 case round =>
  obtain ⟨k, hk, rfl, hT, hbk⟩ := hrel
  by_cases hlt : k < F.length
  ·obtain ⟨wo, hwo⟩ := exq (wr)
   subst hwo
   obtain ⟨b, off, us, ur, rfl, hb, q0, q1, hd⟩ := HFA.out.hd hlt
   obtain ⟨pa, pn, pc, va, vn, vc, rfl, rfl, hpn, hpm, hpi, hvn, hvm, hvr⟩ := id hd
   have q0' : wo.cell? ⟨b, off + k * 2, none⟩ = some (.slice pa pn pc) := (hbk.cell (p := ⟨b, _, none⟩) hb).trans q0
   have q1' : wo.cell? ⟨b, off + k * 2 + 1, none⟩ = some (.slice va vn vc) := (hbk.cell (p := ⟨b, _, none⟩) hb).trans q1
   obtain ⟨f, hf⟩ := exq (F[k])
   rw [<- hf] at hd hpn hpi hvn hvr
   have hfm : f ∈ F := by rw [hf]; exact List.getElem_mem hlt
   have hft : F.take (k + 1) = F.take k ++ [f] := by rw [hf]; exact List.take_succ_eq_append_getElem hlt
   have hrc : refC (F.take (k + 1)) = stepR (refC (F.take k)) f := by rw [hft, zLJ]
   obtain ⟨_, hasc, hmem, _⟩ := HRC.out k
   have hne : ∀ g ∈ refC (F.take k), g.1 ≠ f.1 := fun g hg e => by
    obtain ⟨i, hi, rfl⟩ := List.mem_iff_getElem.1 (hmem g hg)
    have hik : i < k := by simp at hi; omega
    rw [List.getElem_take] at e
    have h1 := List.pairwise_iff_getElem.1 HND.out i k (by simp; omega) (by simp; omega) hik
    simp only [List.getElem_map] at h1
    exact h1 (by rw [e, hf])
   have hTl := refC_len (F.take k)
   have hTl2 : (refC (F.take k)).length <= 11264 := by
    have := HFL.out
    simp at hTl; omega
   obtain ⟨T, hTT⟩ := exq (refC (F.take k))
   rw [<- hTT] at hT hrc hasc hmem hne hTl2
   have hfv := HFV.out f hfm
   have HFF := hid hfv
   have HDF := hid hd
   have HRR := hid hrc
   have HAS := hid hasc
   have HNE := hid hne
   have HGV := hid (fun g (hg : g ∈ T) => HFV.out g (List.mem_of_mem_take (hmem g hg)))
   have HTT := hid hT
   have HBK := hid hbk
   have i1 : (k : Int) < (F.length : Int) := by omega
   have hk9 : k <= 11264 := by have := HFL.out; omega
   have i0 : (0 : Int) <= (k : Int) := by omega
   have HFR := hid hvr
   have HVN := hid hvn
   clear hd hpn hpm hpi hvn hvm hvr hf hfm hft hrc hasc hmem hne hTl hT hbk hfv hTT q0 q1 hb
   go_upto_region 8 with fail
   obtain ⟨h, hh⟩ := exq (wo.heap.size)
   obtain ⟨wh, hwh⟩ := exq (wo.alloc (.cells #[.slice pa pn pc, .slice va vn vc] 73))
   rw [<- hh, <- hwh]
   have hbh : Below wo.heap.size wo wh := by rw [hwh]; exact (Below.refl _ _).alloc (Nat.le_refl _) _
   have hch : wh.heap[h]? = some (.cells #[.slice pa pn pc, .slice va vn vc] 73 (0, 0)) := by rw [hwh, hh]; exact World.alloc_heap_new _ _
   have HCH := hid (fun (Z : World) (hZ : Below wh.heap.size wh Z) => show Z.cell? ⟨h, 0, none⟩ = some (.slice pa pn pc) ∧ Z.cell? ⟨h, 1, none⟩ = some (.slice va vn vc) from by
    have h1 := (hZ.block h (Array.getElem?_eq_some_iff.1 hch).1).trans hch
    exact ⟨by simp [World.cell?, h1], by simp [World.cell?, h1]⟩)
   have HTH := hid (HTT.out.below hbh)
   have HBH := hid (zAA HBK.out hbh)
   clear q0' q1' hh hwh hbh hch HTT HBK
   obtain ⟨ta, tc, rfl⟩ := HTH.out.slice
   rcases T with _ | ⟨g0, T1⟩
   ·have HIN := hid (show refC (F.take (k + 1)) = insC f [] from HRR.out)
    obtain ⟨wg, hwg⟩ := exq (wh)
    subst hwg
    have HTG := HTH
    have HBG := HBH
    have HBW := hid (Below.refl wg.heap.size wg)
    have HAT := HAS
    have HNT := HNE
    have HLT := hid (show 0 <= 11264 by omega)
    go_upto_region 14 with fail
    -- the insertion: ([] : List FitT)
    obtain ⟨xs, hoo, hoe⟩ := HTG.out
    have hq' : (([] : List FitT)).length = 0 := rfl
    rw [hq'] at hoo
    have HOO := hid hoo
    have HOE := hid hoe
    have HXL := hid hoo.1
    have HQQ := hid hq'
    clear hoo hoe hq'
    have HNW := hid (news2 wg (.slice pa pn pc) (.slice va vn vc) 73)
    have M1 := hid (show 0 + 1 <= maxLen by have := HLT.out; unfold maxLen; omega)
    have M2 := hid (show (0 + 1) * 48 <= 140737488355328 by have := HLT.out; omega)
    have M3 := hid (Nat.le_trans HBG.out.size (zBY wg (.cells #[.slice pa pn pc, .slice va vn vc] 73)))
    have HONE := hid (show ∀ u ∈ [Value.slice pa pn pc, .slice va vn vc], u.oneCell' = true from fun u hu => by simp at hu; rcases hu with rfl | rfl <;> rfl)
    obtain ⟨y0, y1⟩ := HCH.out _ HBW.out
    go_wp2_with (at_builtin; refine zAN _ rfl (.tmp 45) (.tmp 47) 87 rfl X.heap.size 73 (.agg #[.slice none 0 0, .slice none 0 0]) 2 48 Tryz.underlying87 zHF rfl (by decide) (.slice ta 0 tc) 0 xs rfl (HOO.out.alloc _) (some ⟨wg.heap.size, 0, none⟩) 1 1 [.slice pa pn pc, .slice va vn vc] rfl rfl zBR HNW.out HONE.out M1.out M2.out M3.out ?_; intro a9 c9 w9 own9 g9; refine Stop.of ?_)
    refine Stop.go ?_
    have HSN := hid (TabF.snoc (t := f) HQQ.out HXL.out HOE.out HDF.out own9)
    have HB9 := hid (show Below X.heap.size X w9 from (HBG.out.alloc HBG.out.size _).grown g9 M3.out (fun g hg => (HOO.out.lt g hg).1))
    clear own9 g9 y0 y1
    go_wp2
    go_loopw [11] (fun i wx => ∃ at_ : Nat, at_ <= 0 ∧ i = .int .i64 at_ ∧ TabF X wx (.slice a9 (0 + 1) c9) ((([] : List FitT)).take at_ ++ f :: (([] : List FitT)).drop at_) ∧ Below X.heap.size X wx ∧ ∀ g ∈ (([] : List FitT)).drop at_, zAL f.1 g.1 = true) (fun i _ => (intOf i).toNat)
    case atStart => exact ⟨0, Nat.le_refl _, rfl, by rw [List.take_of_length_le (by rw [HQQ.out]; exact Nat.le_refl _), List.drop_of_length_le (by rw [HQQ.out]; exact Nat.le_refl _)]; exact HSN.out, HB9.out, fun g hg => by rw [List.drop_of_length_le (by rw [HQQ.out]; exact Nat.le_refl _)] at hg; cases hg⟩
    case round =>
     obtain ⟨at_, hat, rfl, hTx, hbx, hlater⟩ := hrel
     rcases at_ with _ | pq
     ·have hins := ins_at (at_ := 0) HAT.out HNT.out (Nat.zero_le _) hlater (.inl rfl)
      rw [hins, <- HIN.out] at hTx
      have HTX := hid hTx
      have HBX2 := hid hbx
      clear hins hTx hbx hlater
      go_wp2
      refine zAH (fun j' _ => wAll j' = true -> True) (by kernel_rfl) ?_
      refine AnyT.nx (i := 0) rfl ?_
      go_wp2
      refine ⟨fun _ => trivial, ?_⟩
      refine AnyT.nx (i := 1) rfl ?_
      go_wp2
      refine ⟨fun _ => trivial, ?_⟩
      refine AnyT.nx (i := 2) rfl ?_
      go_wp2
      refine ⟨fun _ => trivial, ?_⟩
      refine AnyT.tN (i := 3) rfl rfl trivial ?_; go_frame
      refine AnyT.tN (i := 4) rfl rfl trivial ?_; go_frame
      refine AnyT.tN (i := 5) rfl rfl trivial ?_; go_frame
      refine AnyT.tN (i := 6) rfl rfl trivial ?_; go_frame
      refine AnyT.tN (i := 7) rfl rfl trivial ?_; go_frame
      refine AnyT.tN (i := 8) rfl rfl trivial ?_; go_frame
      refine AnyT.tN (i := 9) rfl rfl trivial ?_; go_frame
      refine AnyT.tN (i := 10) rfl rfl trivial ?_; go_frame
      refine AnyT.tN (i := 11) rfl rfl trivial ?_; go_frame
      refine AnyT.tN (i := 12) rfl rfl trivial ?_; go_frame
      refine AnyT.tN (i := 13) rfl rfl trivial ?_; go_frame
      refine AnyT.tN (i := 14) rfl rfl trivial ?_; go_frame
      refine AnyT.nx (i := 15) rfl ?_
      go_wp2
      refine ⟨fun _ => trivial, ?_⟩
      refine AnyT.done (by kernel_rfl) ?_ _
      go_wp2
      exact ⟨⟨k + 1, by omega, by go_num, HTX.out.below ((Below.refl _ _).drew), HBX2.out.drew⟩, by simp [intOf]; omega⟩
     ·exact absurd hat (by omega)
   ·obtain ⟨gb, gc, gus, gur, egv, hgb, hglt, z0, z1, hgd, hgf, _⟩ := HTH.out.at (j := 0) (by simp)
    simp only [Value.slice.injEq] at egv
    obtain ⟨rfl, _, rfl⟩ := egv
    obtain ⟨ga, gn, gcc, gva, gvn, gvc, rfl, rfl, _, _, _, hgvn, _, hgvr⟩ := hgd
    simp only [List.getElem_cons_zero] at hgvn hgvr
    have hgv := HGV.out g0 (by simp)
    have HS := hid (fun (Z : World) (hZ : Below wh.heap.size wh Z) => show Z.cell? ⟨h, 1, none⟩ = some (.slice va vn vc) ∧ Z.cell? ⟨gb, 1, none⟩ = some (.slice gva gvn gvc) from
     ⟨(HCH.out Z hZ).2, by have := (hZ.cell (p := ⟨gb, 0 * 2 + 1, none⟩) hglt).trans z1; simpa using this⟩)
    have HN1 := hid (fun (Z : World) (hZ : Below X.heap.size X Z) => zKS Z va vn vc f.2 HVN.out (by have := HFF.out.1; have := HVN.out; omega) (HFR.out.below hZ) (fun j => by obtain ⟨x1, x2, x3, x4⟩ := zFL HFF.out.2.1 j; omega))
    have HN2 := hid (fun (Z : World) (hZ : Below X.heap.size X Z) => zKS Z gva gvn gvc g0.2 hgvn (by have := hgv.1; omega) (hgvr.below hZ) (fun j => by obtain ⟨x1, x2, x3, x4⟩ := zFL hgv.2.1 j; omega))
    have HCQ := hid (cmpQ_S HFF.out.2.1 hgv.2.1)
    have HOR := hid (fun (Z : World) (v u : Value) (h : RatV Z v 90 (zFQ f.2).1 (zFQ f.2).2) (k : RatV Z u 90 (zFQ g0.2).1 (zFQ g0.2).2) => zOH Z v u 90 90 _ _ _ _ h k (by omega) (by omega))
    rw [HCQ.out] at HOR
    have HSR := hid (show stepR (g0 :: T1) f = if 0 < cmpQ f g0 then g0 :: T1 else if cmpQ f g0 < 0 then [f] else insC f (g0 :: T1) from rfl)
    obtain ⟨cv, hcv⟩ := exq (cmpQ f g0)
    rw [<- hcv] at HOR HSR
    have HGLT := hid hglt
    have hlen : (g0 :: T1).length = T1.length + 1 := rfl
    have HLE := hid hlen
    obtain ⟨Q, hQ⟩ := exq ((g0 :: T1).length)
    have hQ1 : 1 <= Q := by omega
    have HQ := hid hQ
    rw [<- hQ] at hTl2
    clear hgb hglt z0 z1 hgf hgvn hgvr hgv hcv hlen HCQ
    rw [show ∀ (ta : Option Addr) (tc : Nat), (Value.slice ta (g0 :: T1).length tc) = .slice ta Q tc from fun _ _ => by rw [hQ]]
    have iQ : (0 : Int) < (Q : Int) := by omega
    clear hQ
    go_upto_region 9 with fail
    refine zAH (fun j' Z => wAll j' = true -> Z.cell? ⟨h, 1, none⟩ = some (.slice va vn vc) ∧ Z.cell? ⟨gb, 1, none⟩ = some (.slice gva gvn gvc)) (by kernel_rfl) ?_
    have hbd : Below wh.heap.size wh wh.drew := (Below.refl _ _).drew
    generalize wh.drew = wd at hbd ⊢
    refine AnyT.tD (i := 0) (v := .pointer (some ⟨h, 1, none⟩)) rfl rfl (by rintro w' ⟨y1, y2⟩; go_simp) (HS.out _ hbd) ?_; go_frame
    refine AnyT.tD (i := 1) (v := .slice va vn vc) rfl rfl (by rintro w' ⟨y1, y2⟩; go_simp) (HS.out _ hbd) ?_; go_frame
    refine AnyT.tD (i := 3) (v := .slice (some ⟨gb, 0, none⟩) Q tc) rfl rfl (by rintro w' ⟨y1, y2⟩; go_simp) (HS.out _ hbd) ?_; go_frame
    refine AnyT.tD (i := 4) (v := .pointer (some ⟨gb, 0, none⟩)) rfl rfl (by rintro w' ⟨y1, y2⟩; go_simp) (HS.out _ hbd) ?_; go_frame
    refine AnyT.tD (i := 5) (v := .pointer (some ⟨gb, 1, none⟩)) rfl rfl (by rintro w' ⟨y1, y2⟩; go_simp) (HS.out _ hbd) ?_; go_frame
    refine AnyT.tD (i := 6) (v := .slice gva gvn gvc) rfl rfl (by rintro w' ⟨y1, y2⟩; go_simp) (HS.out _ hbd) ?_; go_frame
    refine AnyT.nx (i := 2) rfl ?_
    go_wp2_with (go_at_call 87; refine (HN1.out _ (zAA HBH.out hbd)).mono ?_; rintro e w4 ⟨v4, rfl, hv4, hb4⟩; refine Stop.of ?_)
    refine Stop.go ?_
    obtain ⟨ps, pa', pk, pc', pb, pm, pe, rfl, _⟩ := hv4.agg
    have HB4 := hid (zAA hbd hb4)
    have HV4 := hid hv4
    clear hv4 hb4
    go_wp2
    refine ⟨fun _ => HS.out _ HB4.out, ?_⟩
    refine AnyT.nx (i := 7) rfl ?_
    go_wp2_with (go_at_call 87; refine (HN2.out _ (zAA HBH.out HB4.out)).mono ?_; rintro e w5 ⟨v5, rfl, hv5, hb5⟩; refine Stop.of ?_)
    refine Stop.go ?_
    obtain ⟨qs, qa, qk, qc, qb, qm, qe, rfl, _⟩ := hv5.agg
    have HB5 := hid (zAA HB4.out hb5)
    have HORR := hid (HOR.out w5 _ _ (HV4.out.below hb5) hv5)
    clear hv5 hb5 HV4
    go_wp2
    refine ⟨fun _ => HS.out _ HB5.out, ?_⟩
    refine AnyT.nx (i := 8) rfl ?_
    go_wp2_with (go_at_call 21; refine HORR.out.mono ?_; rintro e wg ⟨rfl, hb6⟩; refine Stop.of ?_)
    refine Stop.go ?_
    have HBW := hid (zAA HB5.out hb6)
    clear hb6
    go_wp2
    refine ⟨fun _ => HS.out _ HBW.out, ?_⟩
    refine AnyT.nx (i := 9) rfl ?_
    go_wp2
    refine ⟨fun _ => HS.out _ HBW.out, ?_⟩
    refine AnyT.done (by kernel_rfl) ?_ _
    have HTW := hid (HTH.out.below HBW.out)
    have HBG := hid (zAA HBH.out HBW.out)
    clear hbd
    by_cases c1 : 0 < cv
    ·have HIN := hid (show refC (F.take (k + 1)) = g0 :: T1 by rw [HRR.out, HSR.out, if_pos c1])
     go_wp2
     refine ⟨⟨k + 1, by omega, by go_num, ?_, HBG.out⟩, by simp [intOf]; omega⟩
     rw [HIN.out, HQ.out]; exact HTW.out
    ·by_cases c2 : cv < 0
     ·have HIN := hid (show refC (F.take (k + 1)) = insC f [] by rw [HRR.out, HSR.out, if_neg c1, if_pos c2]; rfl)
      have HTG := hid (TabF.nil X wg)
      have HAT := hid (show AscF [] from List.Pairwise.nil)
      have HNT := hid (show ∀ g ∈ ([] : List FitT), g.1 ≠ f.1 from fun g hg => by cases hg)
      have HLT := hid (show 0 <= 11264 by omega)
      go_upto_region 14 with fail
      -- the insertion: ([] : List FitT)
      obtain ⟨xs, hoo, hoe⟩ := HTG.out
      have hq' : (([] : List FitT)).length = 0 := rfl
      rw [hq'] at hoo
      have HOO := hid hoo
      have HOE := hid hoe
      have HXL := hid hoo.1
      have HQQ := hid hq'
      clear hoo hoe hq'
      have HNW := hid (news2 wg (.slice pa pn pc) (.slice va vn vc) 73)
      have M1 := hid (show 0 + 1 <= maxLen by have := HLT.out; unfold maxLen; omega)
      have M2 := hid (show (0 + 1) * 48 <= 140737488355328 by have := HLT.out; omega)
      have M3 := hid (Nat.le_trans HBG.out.size (zBY wg (.cells #[.slice pa pn pc, .slice va vn vc] 73)))
      have HONE := hid (show ∀ u ∈ [Value.slice pa pn pc, .slice va vn vc], u.oneCell' = true from fun u hu => by simp at hu; rcases hu with rfl | rfl <;> rfl)
      obtain ⟨y0, y1⟩ := HCH.out _ HBW.out
      go_wp2_with (at_builtin; refine zAN _ rfl (.tmp 45) (.tmp 47) 87 rfl X.heap.size 73 (.agg #[.slice none 0 0, .slice none 0 0]) 2 48 Tryz.underlying87 zHF rfl (by decide) (.slice none 0 0) 0 xs rfl (HOO.out.alloc _) (some ⟨wg.heap.size, 0, none⟩) 1 1 [.slice pa pn pc, .slice va vn vc] rfl rfl zBR HNW.out HONE.out M1.out M2.out M3.out ?_; intro a9 c9 w9 own9 g9; refine Stop.of ?_)
      refine Stop.go ?_
      have HSN := hid (TabF.snoc (t := f) HQQ.out HXL.out HOE.out HDF.out own9)
      have HB9 := hid (show Below X.heap.size X w9 from (HBG.out.alloc HBG.out.size _).grown g9 M3.out (fun g hg => (HOO.out.lt g hg).1))
      clear own9 g9 y0 y1
      go_wp2
      go_loopw [11] (fun i wx => ∃ at_ : Nat, at_ <= 0 ∧ i = .int .i64 at_ ∧ TabF X wx (.slice a9 (0 + 1) c9) ((([] : List FitT)).take at_ ++ f :: (([] : List FitT)).drop at_) ∧ Below X.heap.size X wx ∧ ∀ g ∈ (([] : List FitT)).drop at_, zAL f.1 g.1 = true) (fun i _ => (intOf i).toNat)
      case atStart => exact ⟨0, Nat.le_refl _, rfl, by rw [List.take_of_length_le (by rw [HQQ.out]; exact Nat.le_refl _), List.drop_of_length_le (by rw [HQQ.out]; exact Nat.le_refl _)]; exact HSN.out, HB9.out, fun g hg => by rw [List.drop_of_length_le (by rw [HQQ.out]; exact Nat.le_refl _)] at hg; cases hg⟩
      case round =>
       obtain ⟨at_, hat, rfl, hTx, hbx, hlater⟩ := hrel
       rcases at_ with _ | pq
       ·have hins := ins_at (at_ := 0) HAT.out HNT.out (Nat.zero_le _) hlater (.inl rfl)
        rw [hins, <- HIN.out] at hTx
        have HTX := hid hTx
        have HBX2 := hid hbx
        clear hins hTx hbx hlater
        go_wp2
        refine zAH (fun j' _ => wAll j' = true -> True) (by kernel_rfl) ?_
        refine AnyT.nx (i := 0) rfl ?_
        go_wp2
        refine ⟨fun _ => trivial, ?_⟩
        refine AnyT.nx (i := 1) rfl ?_
        go_wp2
        refine ⟨fun _ => trivial, ?_⟩
        refine AnyT.nx (i := 2) rfl ?_
        go_wp2
        refine ⟨fun _ => trivial, ?_⟩
        refine AnyT.tN (i := 3) rfl rfl trivial ?_; go_frame
        refine AnyT.tN (i := 4) rfl rfl trivial ?_; go_frame
        refine AnyT.tN (i := 5) rfl rfl trivial ?_; go_frame
        refine AnyT.tN (i := 6) rfl rfl trivial ?_; go_frame
        refine AnyT.tN (i := 7) rfl rfl trivial ?_; go_frame
        refine AnyT.tN (i := 8) rfl rfl trivial ?_; go_frame
        refine AnyT.tN (i := 9) rfl rfl trivial ?_; go_frame
        refine AnyT.tN (i := 10) rfl rfl trivial ?_; go_frame
        refine AnyT.tN (i := 11) rfl rfl trivial ?_; go_frame
        refine AnyT.tN (i := 12) rfl rfl trivial ?_; go_frame
        refine AnyT.tN (i := 13) rfl rfl trivial ?_; go_frame
        refine AnyT.tN (i := 14) rfl rfl trivial ?_; go_frame
        refine AnyT.nx (i := 15) rfl ?_
        go_wp2
        refine ⟨fun _ => trivial, ?_⟩
        refine AnyT.done (by kernel_rfl) ?_ _
        go_wp2
        exact ⟨⟨k + 1, by omega, by go_num, HTX.out.below ((Below.refl _ _).drew), HBX2.out.drew⟩, by simp [intOf]; omega⟩
       ·exact absurd hat (by omega)
     ·have HIN := hid (show refC (F.take (k + 1)) = insC f (g0 :: T1) by rw [HRR.out, HSR.out, if_neg c1, if_neg c2])
      have HTG := HTW
      have HAT := HAS
      have HNT := HNE
      have HLT := hid hTl2
      go_upto_region 14 with fail
      -- the insertion: (g0 :: T1)
      obtain ⟨xs, hoo, hoe⟩ := HTG.out
      have hq' : ((g0 :: T1)).length = Q := HQ.out.symm
      rw [hq'] at hoo
      have HOO := hid hoo
      have HOE := hid hoe
      have HXL := hid hoo.1
      have HQQ := hid hq'
      clear hoo hoe hq'
      have HNW := hid (news2 wg (.slice pa pn pc) (.slice va vn vc) 73)
      have M1 := hid (show Q + 1 <= maxLen by have := HLT.out; unfold maxLen; omega)
      have M2 := hid (show (Q + 1) * 48 <= 140737488355328 by have := HLT.out; omega)
      have M3 := hid (Nat.le_trans HBG.out.size (zBY wg (.cells #[.slice pa pn pc, .slice va vn vc] 73)))
      have HONE := hid (show ∀ u ∈ [Value.slice pa pn pc, .slice va vn vc], u.oneCell' = true from fun u hu => by simp at hu; rcases hu with rfl | rfl <;> rfl)
      obtain ⟨y0, y1⟩ := HCH.out _ HBW.out
      go_wp2_with (at_builtin; refine zAN _ rfl (.tmp 45) (.tmp 47) 87 rfl X.heap.size 73 (.agg #[.slice none 0 0, .slice none 0 0]) 2 48 Tryz.underlying87 zHF rfl (by decide) (.slice (some ⟨gb, 0, none⟩) Q tc) Q xs rfl (HOO.out.alloc _) (some ⟨wg.heap.size, 0, none⟩) 1 1 [.slice pa pn pc, .slice va vn vc] rfl rfl zBR HNW.out HONE.out M1.out M2.out M3.out ?_; intro a9 c9 w9 own9 g9; refine Stop.of ?_)
      refine Stop.go ?_
      have HSN := hid (TabF.snoc (t := f) HQQ.out HXL.out HOE.out HDF.out own9)
      have HB9 := hid (show Below X.heap.size X w9 from (HBG.out.alloc HBG.out.size _).grown g9 M3.out (fun g hg => (HOO.out.lt g hg).1))
      clear own9 g9 y0 y1
      go_wp2
      go_loopw [11] (fun i wx => ∃ at_ : Nat, at_ <= Q ∧ i = .int .i64 at_ ∧ TabF X wx (.slice a9 (Q + 1) c9) (((g0 :: T1)).take at_ ++ f :: ((g0 :: T1)).drop at_) ∧ Below X.heap.size X wx ∧ ∀ g ∈ ((g0 :: T1)).drop at_, zAL f.1 g.1 = true) (fun i _ => (intOf i).toNat)
      case atStart => exact ⟨Q, Nat.le_refl _, rfl, by rw [List.take_of_length_le (by rw [HQQ.out]; exact Nat.le_refl _), List.drop_of_length_le (by rw [HQQ.out]; exact Nat.le_refl _)]; exact HSN.out, HB9.out, fun g hg => by rw [List.drop_of_length_le (by rw [HQQ.out]; exact Nat.le_refl _)] at hg; cases hg⟩
      case round =>
       obtain ⟨at_, hat, rfl, hTx, hbx, hlater⟩ := hrel
       rcases at_ with _ | pq
       ·have hins := ins_at (at_ := 0) HAT.out HNT.out (Nat.zero_le _) hlater (.inl rfl)
        rw [hins, <- HIN.out] at hTx
        have HTX := hid hTx
        have HBX2 := hid hbx
        clear hins hTx hbx hlater
        go_wp2
        refine zAH (fun j' _ => wAll j' = true -> True) (by kernel_rfl) ?_
        refine AnyT.nx (i := 0) rfl ?_
        go_wp2
        refine ⟨fun _ => trivial, ?_⟩
        refine AnyT.nx (i := 1) rfl ?_
        go_wp2
        refine ⟨fun _ => trivial, ?_⟩
        refine AnyT.nx (i := 2) rfl ?_
        go_wp2
        refine ⟨fun _ => trivial, ?_⟩
        refine AnyT.tN (i := 3) rfl rfl trivial ?_; go_frame
        refine AnyT.tN (i := 4) rfl rfl trivial ?_; go_frame
        refine AnyT.tN (i := 5) rfl rfl trivial ?_; go_frame
        refine AnyT.tN (i := 6) rfl rfl trivial ?_; go_frame
        refine AnyT.tN (i := 7) rfl rfl trivial ?_; go_frame
        refine AnyT.tN (i := 8) rfl rfl trivial ?_; go_frame
        refine AnyT.tN (i := 9) rfl rfl trivial ?_; go_frame
        refine AnyT.tN (i := 10) rfl rfl trivial ?_; go_frame
        refine AnyT.tN (i := 11) rfl rfl trivial ?_; go_frame
        refine AnyT.tN (i := 12) rfl rfl trivial ?_; go_frame
        refine AnyT.tN (i := 13) rfl rfl trivial ?_; go_frame
        refine AnyT.tN (i := 14) rfl rfl trivial ?_; go_frame
        refine AnyT.nx (i := 15) rfl ?_
        go_wp2
        refine ⟨fun _ => trivial, ?_⟩
        refine AnyT.done (by kernel_rfl) ?_ _
        go_wp2
        exact ⟨⟨k + 1, by omega, by go_num, HTX.out.below ((Below.refl _ _).drew), HBX2.out.drew⟩, by simp [intOf]; omega⟩
       ·have hp : pq < (g0 :: T1).length := by rw [<- HQ.out]; omega
        obtain ⟨e1, e2, e3⟩ := ins_get (f := f) hp
        obtain ⟨L, hL⟩ := exq ((g0 :: T1).take (pq + 1) ++ f :: (g0 :: T1).drop (pq + 1))
        have hns : (L.set (pq + 1) (g0 :: T1)[pq]).set pq f = (g0 :: T1).take pq ++ f :: (g0 :: T1).drop pq := by rw [hL]; exact ins_set hp
        have hgt : (g0 :: T1)[pq]? = some (g0 :: T1)[pq] := List.getElem?_eq_getElem hp
        have hdr : (g0 :: T1).drop pq = (g0 :: T1)[pq] :: (g0 :: T1).drop (pq + 1) := List.drop_eq_getElem_cons hp
        obtain ⟨g1, hg1⟩ := exq ((g0 :: T1)[pq])
        rw [<- hL] at e1 e2 e3
        rw [<- hg1] at e1 hns hgt hdr
        have HLI := hid (fun (hv : zAL f.1 g1.1 = false) => show L = insC f (g0 :: T1) from by rw [hL]; exact ins_at HAT.out HNT.out (by omega) hlater (.inr ⟨g1, hgt, hv⟩))
        have HLA := hid (fun (hv : zAL f.1 g1.1 = true) => show ∀ g ∈ (g0 :: T1).drop pq, zAL f.1 g.1 = true from by
         intro g hg
         rw [hdr] at hg
         rcases List.mem_cons.1 hg with rfl | hg
         ·exact hv
         ·exact hlater g hg)
        rw [<- hL] at hTx
        have hLl : L.length = Q + 1 := by rw [e3, HQ.out]
        have hp1 : pq + 1 < L.length := by omega
        have hp0 : pq < L.length := by omega
        have l1 : L[pq + 1] = f := (List.getElem?_eq_some_iff.1 e2).2
        have l0 : L[pq] = g1 := (List.getElem?_eq_some_iff.1 e1).2
        have HNS := hid hns
        clear hns hgt hdr hlater hg1 e1 e2 e3 hL
        obtain ⟨gb1, gc1, us1, ur1, ev1, hgx1, hgl1, z0, z1, hd1, hfz, _⟩ := hTx.at hp1
        obtain ⟨gb2, gc2, us2, ur2, ev2, _, _, y0, y1, hd2, _, _⟩ := hTx.at hp0
        rw [l1] at hd1
        rw [l0] at hd2
        rw [hLl] at ev1 ev2
        simp only [Value.slice.injEq, true_and] at ev1 ev2
        obtain ⟨rfl, rfl⟩ := ev1
        obtain ⟨ev2, rfl⟩ := ev2
        simp only [Option.some.injEq, Addr.mk.injEq, and_true] at ev2
        subst ev2
        obtain ⟨p1a, p1n, p1c, v1a, v1n, v1c, rfl, rfl, k1, k2, k3, k4, k5, k6⟩ := id hd1
        obtain ⟨p2a, p2n, p2c, v2a, v2n, v2c, rfl, rfl, m1, m2, m3, m4, m5, m6⟩ := id hd2
        have HD1 := hid hd1
        have HD2 := hid hd2
        have HEA := hid (fun (Z : World) (hZ : Below X.heap.size X Z) => r5earlier_c Z p1a p2a p1n p1c p2n p2c f.1 g1.1 k1 m1 k2 m2 (k3.below hZ) (m3.below hZ))
        have HS := hid (fun (Z : World) (hZ : Below wr.heap.size wr Z) => show Z.cell? ⟨gb1, (pq + 1) * 2, none⟩ = some (.slice p1a p1n p1c) ∧ Z.cell? ⟨gb1, pq * 2, none⟩ = some (.slice p2a p2n p2c) ∧ Z.cell? ⟨gb1, (pq + 1) * 2 + 1, none⟩ = some (.slice v1a v1n v1c) ∧ Z.cell? ⟨gb1, pq * 2 + 1, none⟩ = some (.slice v2a v2n v2c) from
         ⟨(hZ.cell (p := ⟨gb1, _, none⟩) hgl1).trans z0, (hZ.cell (p := ⟨gb1, _, none⟩) hgl1).trans y0, (hZ.cell (p := ⟨gb1, _, none⟩) hgl1).trans z1, (hZ.cell (p := ⟨gb1, _, none⟩) hgl1).trans y1⟩)
        have HTX := hid hTx
        have HBX2 := hid hbx
        have HGL := hid hgl1
        have HLL := hid hLl
        have HPX1 := hid hp1
        have HPX0 := hid hp0
        obtain ⟨evb, hevb⟩ := exq (zAL f.1 g1.1)
        rw [<- hevb] at HEA HLI HLA
        clear hd1 hd2 k1 k2 k3 k4 k5 k6 m1 m2 m3 m4 m5 m6 hTx hbx hgl1 z0 z1 y0 y1 hLl hp1 hp0 l1 l0 hevb hp hfz hgx1
        have hpq9 : pq <= 11264 := by have := HLT.out; omega
        have ipos : (0 : Int) < ((pq + 1 : Nat) : Int) := by omega
        have ia : (0 : Int) <= ((pq + 1 : Nat) : Int) ∧ ((pq + 1 : Nat) : Int) < ((Q + 1 : Nat) : Int) := by omega
        have ib : ((pq + 1 : Nat) : Int) - 1 = (pq : Int) := by omega
        have ic : (0 : Int) <= (pq : Int) ∧ (pq : Int) < ((Q + 1 : Nat) : Int) := by omega
        have hpqQ : pq < Q := by omega
        have ja : ¬ ((pq : Int) + 1 < 0) := by omega
        have jb : ¬ ((Q : Int) + 1 <= (pq : Int)) := by omega
        have jc : (pq : Int) + 1 < (Q : Int) + 1 := by omega
        have jd : (pq : Int) < (Q : Int) + 1 := by omega
        have jw : IntKind.i64.wrap (pq : Int) = pq := IntWalk.i64_in _ (by omega)
        go_wp2
        refine zAH (fun j' Z => wAll j' = true -> Z.cell? ⟨gb1, (pq + 1) * 2, none⟩ = some (.slice p1a p1n p1c) ∧ Z.cell? ⟨gb1, pq * 2, none⟩ = some (.slice p2a p2n p2c) ∧ Z.cell? ⟨gb1, (pq + 1) * 2 + 1, none⟩ = some (.slice v1a v1n v1c) ∧ Z.cell? ⟨gb1, pq * 2 + 1, none⟩ = some (.slice v2a v2n v2c)) (by kernel_rfl) ?_
        have hbd : Below wr.heap.size wr wr.drew := (Below.refl _ _).drew
        generalize wr.drew = wd at hbd ⊢
        have HBD := hid hbd
        clear hbd
        refine AnyT.nx (i := 0) rfl ?_
        go_wp2
        refine ⟨fun _ => HS.out _ HBD.out, ?_⟩
        refine AnyT.nx (i := 1) rfl ?_
        go_wp2
        refine ⟨fun _ => HS.out _ HBD.out, ?_⟩
        refine AnyT.nx (i := 2) rfl ?_
        go_wp2
        refine ⟨fun _ => HS.out _ HBD.out, ?_⟩
        refine AnyT.tD (i := 3) (v := .slice (some ⟨gb1, 0, none⟩) (Q + 1) c9) rfl rfl (by rintro w' ⟨q0, q1, q2, q3⟩; go_simp) (HS.out _ HBD.out) ?_; go_frame
        refine AnyT.tD (i := 4) (v := .int .i64 ((pq + 1 : Nat) : Int)) rfl rfl (by rintro w' ⟨q0, q1, q2, q3⟩; go_simp) (HS.out _ HBD.out) ?_; go_frame
        refine AnyT.tD (i := 5) (v := .pointer (some ⟨gb1, (pq + 1) * 2, none⟩)) rfl rfl (by rintro w' ⟨q0, q1, q2, q3⟩; go_simp) (HS.out _ HBD.out) ?_; go_frame
        refine AnyT.tD (i := 6) (v := .pointer (some ⟨gb1, (pq + 1) * 2, none⟩)) rfl rfl (by rintro w' ⟨q0, q1, q2, q3⟩; go_simp) (HS.out _ HBD.out) ?_; go_frame
        refine AnyT.tD (i := 7) (v := .slice p1a p1n p1c) rfl rfl (by rintro w' ⟨q0, q1, q2, q3⟩; go_simp) (HS.out _ HBD.out) ?_; go_frame
        refine AnyT.tD (i := 8) (v := .slice (some ⟨gb1, 0, none⟩) (Q + 1) c9) rfl rfl (by rintro w' ⟨q0, q1, q2, q3⟩; go_simp) (HS.out _ HBD.out) ?_; go_frame
        refine AnyT.tD (i := 9) (v := .int .i64 ((pq + 1 : Nat) : Int)) rfl rfl (by rintro w' ⟨q0, q1, q2, q3⟩; go_simp) (HS.out _ HBD.out) ?_; go_frame
        refine AnyT.tD (i := 10) (v := .int .i64 (pq : Int)) rfl rfl (by rintro w' ⟨q0, q1, q2, q3⟩; go_simp) (HS.out _ HBD.out) ?_; go_frame
        refine AnyT.tD (i := 11) (v := .pointer (some ⟨gb1, pq * 2, none⟩)) rfl rfl (by rintro w' ⟨q0, q1, q2, q3⟩; go_simp) (HS.out _ HBD.out) ?_; go_frame
        refine AnyT.tD (i := 12) (v := .pointer (some ⟨gb1, pq * 2, none⟩)) rfl rfl (by rintro w' ⟨q0, q1, q2, q3⟩; go_simp) (HS.out _ HBD.out) ?_; go_frame
        refine AnyT.tD (i := 13) (v := .slice p2a p2n p2c) rfl rfl (by rintro w' ⟨q0, q1, q2, q3⟩; go_simp) (HS.out _ HBD.out) ?_; go_frame
        refine AnyT.nx (i := 14) rfl ?_
        go_wp2_with (go_at_call 158; refine (HEA.out _ (zAA HBX2.out HBD.out)).mono ?_; rintro e wE ⟨rfl, hbE⟩; refine Stop.of ?_)
        refine Stop.go ?_
        have HBE := hid (zAA HBD.out hbE)
        clear hbE
        go_wp2
        refine ⟨fun _ => HS.out _ HBE.out, ?_⟩
        refine AnyT.nx (i := 15) rfl ?_
        go_wp2
        refine ⟨fun _ => HS.out _ HBE.out, ?_⟩
        refine AnyT.done (by kernel_rfl) ?_ _
        have HTE := hid (HTX.out.below HBE.out)
        have HBXE := hid (zAA HBX2.out HBE.out)
        cases evb
        ·have HLE := hid (HLI.out rfl)
         go_wp2
         refine ⟨⟨k + 1, by omega, by go_num, ?_, HBXE.out⟩, by simp [intOf]; omega⟩
         have ht := HTE.out
         rw [HLE.out, <- HIN.out] at ht
         exact ht
        ·have HLA2 := hid (HLA.out rfl)
         obtain ⟨r0, r1, r2, r3⟩ := HS.out _ HBE.out
         go_upto_region 17 with fail
         clear r0 r1 r2 r3
         obtain ⟨bx, hbx⟩ := exq (wE.heap.size)
         obtain ⟨wF, hwF⟩ := exq (wE.alloc (.cells #[.slice p1a p1n p1c, .slice v1a v1n v1c] 73))
         rw [<- hbx, <- hwF]
         have hEF : Below wE.heap.size wE wF := by rw [hwF]; exact (Below.refl _ _).alloc (Nat.le_refl _) _
         have hcx : wF.heap[bx]? = some (.cells #[.slice p1a p1n p1c, .slice v1a v1n v1c] 73 (0, 0)) := by rw [hwF, hbx]; exact World.alloc_heap_new _ _
         have hTF := HTE.out.below hEF
         have HBF := hid (zAA HBXE.out hEF)
         have hgl : gb1 < wE.heap.size := Nat.lt_of_lt_of_le HGL.out HBE.out.size
         have hbg : bx ≠ gb1 := by omega
         obtain ⟨r0, r1, r2, r3⟩ := HS.out _ (zAA HBE.out hEF)
         have hTG := hTF.put HPX1.out HD2.out
         obtain ⟨gq, _, _, _, evq, _, _, _, _, _, hfq, _⟩ := hTF.at HPX1.out
         simp only [Value.slice.injEq, Option.some.injEq, Addr.mk.injEq, and_true] at evq
         obtain ⟨rfl, _⟩ := evq
         have f0 := hfq ((pq + 1) * 2)
         have f1 := hfq ((pq + 1) * 2 + 1)
         have HTG := hid hTG
         have HCX := hid hcx
         have HBG2 := hid hbg
         have HGX := hid (show X.heap.size <= gb1 from by
          obtain ⟨gq, _, _, _, evq, hq, _⟩ := hTF.at HPX1.out
          simp only [Value.slice.injEq, Option.some.injEq, Addr.mk.injEq, and_true] at evq
          obtain ⟨rfl, _⟩ := evq
          exact hq)
         clear hTG hcx hbg hTF hEF hwF hbx hgl hfq
         go_upto_region 18 with fail
         clear r0 r1 r2 r3 f0 f1
         obtain ⟨wG, hwG⟩ := exq ((wF.setCell ⟨gb1, (pq + 1) * 2, none⟩ (.slice p2a p2n p2c)).setCell ⟨gb1, (pq + 1) * 2 + 1, none⟩ (.slice v2a v2n v2c))
         rw [<- hwG]
         have hTG := HTG.out
         rw [<- hwG] at hTG
         have hcx : wG.heap[bx]? = some (.cells #[.slice p1a p1n p1c, .slice v1a v1n v1c] 73 (0, 0)) := by
          rw [hwG, Below.heap_setCell _ _ _ _ HBG2.out, Below.heap_setCell _ _ _ _ HBG2.out]; exact HCX.out
         have hBG : Below X.heap.size X wG := by rw [hwG]; exact zAB (zAB HBF.out HGX.out _ _) HGX.out _ _
         have x0 : wG.cell? ⟨bx, 0, none⟩ = some (.slice p1a p1n p1c) := by simp [World.cell?, hcx]
         have x1 : wG.cell? ⟨bx, 1, none⟩ = some (.slice v1a v1n v1c) := by simp [World.cell?, hcx]
         have hlg : pq < (L.set (pq + 1) g1).length := by rw [List.length_set]; exact HPX0.out
         have hTH := hTG.put hlg HD1.out
         obtain ⟨gq, _, usq, urq, evq, _, _, r0, r1, _, hfq, _⟩ := hTG.at hlg
         simp only [Value.slice.injEq, Option.some.injEq, Addr.mk.injEq, and_true] at evq
         obtain ⟨rfl, _⟩ := evq
         have f0 := hfq (pq * 2)
         have f1 := hfq (pq * 2 + 1)
         rw [HNS.out] at hTH
         have HTH2 := hid hTH
         have HBH2 := hid (zAB (zAB hBG HGX.out (pq * 2) (.slice p1a p1n p1c)) HGX.out (pq * 2 + 1) (.slice v1a v1n v1c))
         clear hcx hwG
         go_wp2
         exact ⟨⟨pq, by omega, by go_num, HTH2.out, HBH2.out, HLA2.out⟩, by simp [intOf] <;> omega⟩
  ·obtain rfl : k = F.length := by omega
   rw [List.take_of_length_le (Nat.le_refl _), HCF.out] at hT
   obtain ⟨ca, cc, rfl, hcm, hca⟩ := hT.reads hbk
   have HCA := hid hca
   have HBK := hid (zAA HBX.out hbk)
   have i1 : ¬ ((F.length : Int) < (F.length : Int)) := by omega
   clear hT hbk hca
   by_cases hF0 : F = []
   ·have hC0 : C.length = 0 := by have := HCF.out; rw [hF0] at this; rw [<- this]; rfl
    rw [hC0] at hcm ⊢
    have HF0 := hid hF0
    clear hF0 hC0 hlt
    go_wp2
    go_ret2
    exact HP0.out _ _ HBK.out HF0.out rfl
   ·have hC0 : C ≠ [] := HCN.out hF0
    have hCl : 0 < C.length := List.length_pos_iff.2 hC0
    have hce : ((C.length : Int) == 0) = false := by simp; omega
    have HF0 := hid hF0
    clear hF0 hC0 hlt
    go_wp2
    go_ret2
    exact HP1.out _ _ HBK.out HF0.out ⟨ca, cc, rfl, HCA.out⟩
end
section
open Go.RowKit
theorem cmpI_zero {a b : Int} : cmpI a b = 0 ↔ a = b := by
 unfold cmpI; split
 ·constructor
  ·intro h; cases h
  ·intro h; omega
 ·split
  ·rename_i h
   exact ⟨fun _ => h, fun _ => rfl⟩
  ·rename_i h
   exact ⟨fun k => (by cases k), fun k => absurd k h⟩
theorem cmp_val {x : List Rt} {g : FitT} {v : Rt} (hg : 0 < (nrmQ g.2).2) (hv : zAZ g = v) : decide (cmpQ ([], x) g = 0) = decide ((nrmQ x).1 * v.2 = v.1 * (nrmQ x).2) := by
 obtain ⟨e, hp⟩ := zLV hg
 rw [hv] at e hp
 rw [decide_eq_decide]
 unfold cmpQ
 rw [cmpI_zero]
 show (nrmQ x).1 * (nrmQ g.2).2 = (nrmQ g.2).1 * (nrmQ x).2 ↔ _
 constructor
 ·intro h
  have : (nrmQ x).1 * v.2 * (nrmQ g.2).2 = v.1 * (nrmQ x).2 * (nrmQ g.2).2 := by
   have a1 : (nrmQ x).1 * v.2 * (nrmQ g.2).2 = (nrmQ x).1 * (nrmQ g.2).2 * v.2 := by grind
   have a2 : v.1 * (nrmQ x).2 * (nrmQ g.2).2 = v.1 * (nrmQ g.2).2 * (nrmQ x).2 := by grind
   rw [a1, a2, h, e]; grind
  exact Int.eq_of_mul_eq_mul_right (by omega) this
 ·intro h
  have : (nrmQ x).1 * (nrmQ g.2).2 * v.2 = (nrmQ g.2).1 * (nrmQ x).2 * v.2 := by
   have a1 : (nrmQ x).1 * (nrmQ g.2).2 * v.2 = (nrmQ x).1 * v.2 * (nrmQ g.2).2 := by grind
   have a2 : (nrmQ g.2).1 * (nrmQ x).2 * v.2 = (nrmQ g.2).1 * v.2 * (nrmQ x).2 := by grind
   rw [a1, a2, h, <- e]; grind
  exact Int.eq_of_mul_eq_mul_right (by omega) this
theorem CornR.val {M : Mask} {Y : List Int} {e : Ending} {w' : World} (h : CornR M Y e w') : ((valE M Y).2 ≠ 0 ∧ e = .returned (.tuple #[.slice none 0 0, .int .i64 (valE M Y).2])) ∨
 ((valE M Y).2 = 0 ∧ rdE M Y = 0 ∧ zBH M Y 10 ≠ [] ∧ valE M Y = (valF M Y, 0) ∧ ∃ a c, e = .returned (.tuple #[.slice a (zGT M Y).length c, .int .i64 0]) ∧ zGW w' a (zGT M Y) ∧ 0 < (zGT M Y).length) := by
 rcases h with ⟨h0, e1⟩ | ⟨h0, h1, e1⟩ | ⟨h0, h1, a, c, e1, h2⟩
 ·left
  have hv : valE M Y = ((0, 0), rdE M Y) := by unfold valE; rw [<- zIE, if_pos h0]
  rw [hv]; exact ⟨h0, e1⟩
 ·left
  rcases zGF h0 with ⟨_, hv⟩ | ⟨k, _⟩
  ·rw [hv]; exact ⟨by decide, e1⟩
  ·exact absurd h1 k
 ·right
  rcases zGF h0 with ⟨k, _⟩ | ⟨_, hv, _⟩
  ·exact absurd k h1
  ·exact ⟨by rw [hv], h0, h1, hv, a, c, e1, h2, List.length_pos_iff.2 (corn_ne h0 h1)⟩
theorem r5least_c (w : World) (a a2 a3 : Option Addr) (n cap n2 cap2 n3 cap3 : Nat) (M : Mask) (Y : List Int) (x : List Rt) (hn : M.length = n) (hn2 : Y.length = n2) (hn3 : x.length = n3) (hm : n <= maxLen) (hm2 : n2 <= maxLen) (hm3 : n3 <= maxLen)
 (H : zAO w a M) (H2 : zAK w a2 Y) (H3 : zBS w a3 x) :
 Calls Tryz.prog 28 #[.slice a n cap, .slice a2 n2 cap2, .slice a3 n3 cap3] w fun e w' => e = .returned (.tuple #[.bool (zDH M Y x).1, .int .i64 (zDH M Y x).2]) ∧ Below w.heap.size w w' := by
 have HMV := hid (zLP w a n cap M hn hm H)
 have HCN := hid (fun (X : World) (hX : Below w.heap.size w X) => zLN X a3 n3 cap3 x hn3 hm3 (H3.below hX))
 have HCO := hid (fun (X : World) (hX : Below w.heap.size w X) => r5corners_c X a a2 n cap n2 cap2 M Y hn hn2 hm hm2 (H.below hX) (H2.below hX))
 have HMK := hid (fun (X : World) (hX : Below w.heap.size w X) => r3makes_c X a a3 a2 n cap n3 cap3 n2 cap2 M x Y hn hn3 hn2 hm hm3 hm2 (H.below hX) (H3.below hX) (H2.below hX))
 obtain ⟨E, hE⟩ := exq (zDH M Y x)
 rw [<- hE]
 have HH3 := hid H3
 by_cases c1 : okM M = true
 rotate_left
 ·have c1' : okM M = false := by simpa using c1
  have HE2 := hid (show E = (false, 1) by rw [hE]; unfold zDH; rw [if_neg (fun h => c1 h.1)])
  rw [c1'] at HMV
  clear hn hn2 hn3 H H2 H3 c1 c1' hE
  go_enter Tryz.func28, Tryz.ntmps28
  go_wp2_with (go_at_call 68; refine HMV.out.mono ?_; rintro e w1 ⟨rfl, rfl⟩)
  go_ret2
  exact ⟨by rw [HE2.out] <;> rfl, Below.refl _ _⟩
 rw [c1] at HMV
 by_cases c2 : x.all zAJ = true
 rotate_left
 ·have c2' : x.all zAJ = false := by simpa using c2
  have HE2 := hid (show E = (false, 1) by rw [hE]; unfold zDH; rw [if_neg (fun h => c2 h.2)])
  rw [c2'] at HCN
  clear hn hn2 hn3 H H2 H3 c1 c2 c2' hE
  go_enter Tryz.func28, Tryz.ntmps28
  go_wp2_with (go_at_call 68; refine HMV.out.mono ?_; rintro e w1 ⟨rfl, rfl⟩; refine Stop.of ?_)
  refine Stop.go ?_
  go_wp2_with (go_at_call 85; refine (HCN.out _ (Below.refl _ _)).mono ?_; rintro e w2 ⟨rfl, hb2⟩)
  go_ret2
  exact ⟨by rw [HE2.out] <;> rfl, hb2⟩
 rw [c2] at HCN
 obtain ⟨hM, h1, h6, hc1, hc10⟩ := zCR c1
 obtain ⟨b0, off0, ra0, rc0, rfl, hb0, hc0⟩ := zDA H (by omega)
 have HS0 := hid (fun (X : World) (hX : Below w.heap.size w X) => show X.cell? ⟨b0, off0, none⟩ = some (.slice ra0 (zAF M) rc0) from (hX.cell (p := ⟨b0, off0, none⟩) hb0).trans hc0)
 have hn0 : (0 : Int) < (n : Int) := by omega
 by_cases c2b : n2 = n
 rotate_left
 ·have HE2 := hid (show E = (false, 9) by
   rw [hE]; unfold zDH; rw [if_pos ⟨c1, c2⟩]
   have hv : (valE M Y).2 = 9 := by
    unfold valE zBB
    rw [if_pos c1, if_neg (show ¬ Y.length = M.length by omega), if_pos (by decide)]
   rw [hv]
   split
   ·rw [if_neg (by decide)]
   ·rfl)
  have hne : ((n2 : Int) != (n : Int)) = true := by simp; omega
  clear hn hn2 hn3 H H2 H3 c1 c2 c2b hE hM h1 h6 hc1 hc10 hc0 hb0
  go_enter Tryz.func28, Tryz.ntmps28
  go_wp2_with (go_at_call 68; refine HMV.out.mono ?_; rintro e w1 ⟨rfl, rfl⟩; refine Stop.of ?_)
  refine Stop.go ?_
  go_wp2_with (go_at_call 85; refine (HCN.out _ (Below.refl _ _)).mono ?_; rintro e w2 ⟨rfl, hb2⟩; have HB2 := hid hb2; clear hb2; refine Stop.of ?_)
  refine Stop.go ?_
  go_wp2
  go_ret2
  exact ⟨by rw [HE2.out] <;> rfl, HB2.out⟩
 subst c2b
 have hneY : ((n2 : Int) != (n2 : Int)) = false := by simp
 by_cases c3 : n3 = zAF M
 rotate_left
 ·have HE2 := hid (show E = (false, 9) by rw [hE]; unfold zDH; rw [if_pos ⟨c1, c2⟩, if_neg (by rw [hn3]; exact c3)])
  obtain ⟨k0, hk0⟩ := exq (zAF M)
  rw [<- hk0] at c3 HS0
  have hne : ((n3 : Int) != (k0 : Int)) = true := by simp; omega
  clear hn hn2 hn3 H H2 H3 c1 c2 c3 hE hM h1 h6 hc1 hc10 hc0 hb0 hk0
  go_enter Tryz.func28, Tryz.ntmps28
  go_wp2_with (go_at_call 68; refine HMV.out.mono ?_; rintro e w1 ⟨rfl, rfl⟩; refine Stop.of ?_)
  refine Stop.go ?_
  go_wp2_with (go_at_call 85; refine (HCN.out _ (Below.refl _ _)).mono ?_; rintro e w2 ⟨rfl, hb2⟩; have HB2 := hid hb2; clear hb2; refine Stop.of ?_)
  refine Stop.go ?_
  have s0 := HS0.out _ HB2.out
  go_wp2
  go_ret2
  exact ⟨by rw [HE2.out] <;> rfl, HB2.out⟩
 have hne : ((n3 : Int) != (n3 : Int)) = false := by simp
 rw [<- c3] at HS0
 have hxv := zFL c2
 have HNX := hid (fun (Z : World) (hZ : Below w.heap.size w Z) => zKS Z a3 n3 cap3 x hn3 (by omega) (HH3.out.below hZ) (fun j => by obtain ⟨x1, x2, x3, x4⟩ := hxv j; omega))
 have HX2 := hid c2
 have hEv : E = if (valE M Y).2 = 0 then (zCB M x Y && decide ((nrmQ x).1 * (valE M Y).1.2 = (valE M Y).1.1 * (nrmQ x).2), 0) else (false, (valE M Y).2) := by
  rw [hE]; unfold zDH; rw [if_pos ⟨c1, c2⟩, if_pos (by rw [hn3]; exact c3)]
 have HEV := hid hEv
 obtain ⟨B, hB⟩ := exq (zCB M x Y)
 rw [<- hB] at HMK HEV
 have HOK := hid c1
 clear hn hn2 hn3 H H2 H3 c1 c2 c3 hE hM h1 h6 hc1 hc10 hc0 hb0 hEv hxv hB
 by_cases hv : (valE M Y).2 = 0
 rotate_left
 ·have HCO0 := hid (fun (X : World) (hX : Below w.heap.size w X) => show Calls Tryz.prog 86 #[.slice (some ⟨b0, off0, none⟩) n2 cap, .slice a2 n2 cap2] X fun e w' => e = .returned (.tuple #[.slice none 0 0, .int .i64 (valE M Y).2]) ∧ Below X.heap.size X w' from by
   refine (HCO.out X hX).mono ?_
   rintro e w' ⟨hco, hb⟩
   rcases hco.val with ⟨_, h⟩ | ⟨h, _⟩
   ·exact ⟨h, hb⟩
   ·exact absurd h hv)
  have HE2 := hid (show E = (false, (valE M Y).2) by rw [HEV.out, if_neg hv])
  have hnf : ((valE M Y).2 != 0) = true := by simpa using hv
  obtain ⟨F, hF⟩ := exq ((valE M Y).2)
  rw [<- hF] at HE2 hnf HCO0
  clear hv hF
  go_enter Tryz.func28, Tryz.ntmps28
  go_wp2_with (go_at_call 68; refine HMV.out.mono ?_; rintro e w1 ⟨rfl, rfl⟩; refine Stop.of ?_)
  refine Stop.go ?_
  go_wp2_with (go_at_call 85; refine (HCN.out _ (Below.refl _ _)).mono ?_; rintro e w2 ⟨rfl, hb2⟩; have HB2 := hid hb2; clear hb2; refine Stop.of ?_)
  refine Stop.go ?_
  have s0 := HS0.out _ HB2.out
  go_wp2_with (go_at_call 86; refine (HCO0.out _ HB2.out).mono ?_; rintro e w3 ⟨rfl, hb3⟩; have HB3 := hid (zAA HB2.out hb3); clear hb3; refine Stop.of ?_)
  refine Stop.go ?_
  go_wp2
  go_ret2
  exact ⟨by rw [HE2.out] <;> rfl, HB3.out⟩
 ·obtain ⟨hr0, ho⟩ := zNY hv
  have hve : valE M Y = (valF M Y, 0) := (val_ok hr0 hv).1
  obtain ⟨C, hC⟩ := exq (zGT M Y)
  have hcl : 0 < C.length := by
   rw [hC]
   rcases zGF hr0 with ⟨_, k⟩ | ⟨k, _⟩
   ·rw [k] at hv; cases hv
   ·exact List.length_pos_iff.2 (corn_ne hr0 k)
  have HCO1 := hid (fun (X : World) (hX : Below w.heap.size w X) => show Calls Tryz.prog 86 #[.slice (some ⟨b0, off0, none⟩) n2 cap, .slice a2 n2 cap2] X fun e w' => (∃ a c, e = .returned (.tuple #[.slice a C.length c, .int .i64 0]) ∧ zGW w' a C) ∧ Below X.heap.size X w' from by
   refine (HCO.out X hX).mono ?_
   rintro e w' ⟨hco, hb⟩
   rw [hC]
   rcases hco.val with ⟨h, _⟩ | ⟨_, _, _, _, a, c, h1, h2, _⟩
   ·exact absurd hv h
   ·exact ⟨⟨a, c, h1, h2⟩, hb⟩)
  have HC := hid hC
  have HCL := hid hcl
  have HRR := hid hr0
  have HVE := hid hve
  have HV0 := hid hv
  clear hv hr0 ho hve hC hcl
  go_enter Tryz.func28, Tryz.ntmps28
  go_wp2_with (go_at_call 68; refine HMV.out.mono ?_; rintro e w1 ⟨rfl, rfl⟩; refine Stop.of ?_)
  refine Stop.go ?_
  go_wp2_with (go_at_call 85; refine (HCN.out _ (Below.refl _ _)).mono ?_; rintro e w2 ⟨rfl, hb2⟩; have HB2 := hid hb2; clear hb2; refine Stop.of ?_)
  refine Stop.go ?_
  have s0 := HS0.out _ HB2.out
  go_upto_region 6 with (go_at_call 86; refine (HCO1.out _ HB2.out).mono ?_; rintro e w3 ⟨⟨ca, cc, rfl, hfa⟩, hb3⟩; have HB3 := hid (zAA HB2.out hb3); have HFA := hid hfa; clear hb3 hfa; refine Stop.of ?_)
  refine Stop.go ?_
  clear s0
  have hr0 := HRR.out
  have hv := HV0.out
  have hve := HVE.out
  have hcl := HCL.out
  have hfa := HFA.out
  obtain ⟨hok, hyl, hmil⟩ := zMV hr0
  obtain ⟨cb, coff, us, ur, rfl, hcb, c0, c1', hd⟩ := hfa.hd hcl
  obtain ⟨p1a, p1n, p1c, v1a, v1n, v1c, rfl, rfl, k1, k2, k3, k4, k5, k6⟩ := hd
  obtain ⟨g, hg⟩ := exq (C[0])
  rw [<- hg] at k4 k6
  have hgm : g ∈ zGT M Y := by rw [hg, <- HC.out]; exact List.getElem_mem hcl
  obtain ⟨hgf, hgv⟩ := (corn_mem hr0).1 hgm
  obtain ⟨_, glen, gval, _, gpos, _⟩ := zEB hok hyl hmil hgf
  have hg10 : g.2.length <= 10 := by
   have := (zHP (show g ∈ allF M Y by rw [zGV (zCR hok).2.2.2.2]; exact hgf)).2.2
   have := (zCR hok).2.2.2.2
   omega
  have HN2 := hid (fun (Z : World) (hZ : Below w3.heap.size w3 Z) => zKS Z v1a v1n v1c g.2 k4 (by omega) (k6.below hZ) (fun j => by obtain ⟨x1, x2, x3, x4⟩ := zFL gval j; omega))
  have HCV := hid (cmp_val (x := x) gpos (by rw [hgv]))
  have hEv2 : E = (B && decide ((nrmQ x).1 * (valF M Y).2 = (valF M Y).1 * (nrmQ x).2), 0) := by rw [HEV.out, if_pos hv, hve]
  rw [<- HCV.out] at hEv2
  have HOR := hid (fun (Z : World) (v u : Value) (h : RatV Z v 90 (zFQ x).1 (zFQ x).2) (k : RatV Z u 90 (zFQ g.2).1 (zFQ g.2).2) => zOH Z v u 90 90 _ _ _ _ h k (by omega) (by omega))
  rw [cmpQ_S (f := ([], x)) HX2.out gval] at HOR
  obtain ⟨cv, hcv⟩ := exq (cmpQ ([], x) g)
  rw [<- hcv] at HOR hEv2
  have HE3 := hid hEv2
  have HS := hid (fun (Z : World) (hZ : Below w3.heap.size w3 Z) => show Z.cell? ⟨cb, coff + 1, none⟩ = some (.slice v1a v1n v1c) from by
   have := (hZ.cell (p := ⟨cb, coff + 0 * 2 + 1, none⟩) hcb).trans c1'
   simpa using this)
  obtain ⟨Q, hQ⟩ := exq (C.length)
  rw [<- hQ] at hcl ⊢
  have iQ : (0 : Int) < (Q : Int) := by omega
  clear hv hr0 hve hfa hok hyl hmil hcb c0 c1' k1 k2 k3 k4 k5 k6 hg hgm hgf hgv glen gval gpos hg10 hEv2 hcv hQ HCV
  go_upto_region 8 with fail
  refine zAH (fun j' Z => wAll j' = true -> Z.cell? ⟨cb, coff + 1, none⟩ = some (.slice v1a v1n v1c)) (by kernel_rfl) ?_
  have hbd : Below w3.heap.size w3 w3.drew := (Below.refl _ _).drew
  generalize w3.drew = wd at hbd ⊢
  have HBD := hid hbd
  clear hbd
  refine AnyT.tD (i := 0) (v := .slice (some ⟨b0, off0, none⟩) n2 cap) rfl rfl (by rintro w' q0; go_simp) (HS.out _ HBD.out) ?_; go_frame
  refine AnyT.tD (i := 1) (v := .slice a3 n3 cap3) rfl rfl (by rintro w' q0; go_simp) (HS.out _ HBD.out) ?_; go_frame
  refine AnyT.tD (i := 2) (v := .slice a2 n2 cap2) rfl rfl (by rintro w' q0; go_simp) (HS.out _ HBD.out) ?_; go_frame
  refine AnyT.nx (i := 3) rfl ?_
  go_wp2_with (go_at_call 30; refine (HMK.out _ (zAA HB3.out HBD.out)).mono ?_; rintro e w4 ⟨rfl, hb4⟩; refine Stop.of ?_)
  refine Stop.go ?_
  have HB4 := hid (zAA HBD.out hb4)
  clear hb4
  go_wp2
  refine ⟨fun _ => HS.out _ HB4.out, ?_⟩
  refine AnyT.nx (i := 4) rfl ?_
  go_wp2
  refine ⟨fun _ => HS.out _ HB4.out, ?_⟩
  cases B
  ·have HE4 := hid (show E = (false, 0) by rw [HE3.out]; rfl)
   refine AnyT.tN (i := 5) rfl rfl (HS.out _ HB4.out) ?_; go_frame
   refine AnyT.tN (i := 6) rfl rfl (HS.out _ HB4.out) ?_; go_frame
   refine AnyT.tN (i := 7) rfl rfl (HS.out _ HB4.out) ?_; go_frame
   refine AnyT.tN (i := 8) rfl rfl (HS.out _ HB4.out) ?_; go_frame
   refine AnyT.tN (i := 9) rfl rfl (HS.out _ HB4.out) ?_; go_frame
   refine AnyT.tN (i := 10) rfl rfl (HS.out _ HB4.out) ?_; go_frame
   refine AnyT.tN (i := 11) rfl rfl (HS.out _ HB4.out) ?_; go_frame
   refine AnyT.tN (i := 12) rfl rfl (HS.out _ HB4.out) ?_; go_frame
   refine AnyT.tN (i := 13) rfl rfl (HS.out _ HB4.out) ?_; go_frame
   refine AnyT.nx (i := 14) rfl ?_
   go_wp2
   refine ⟨fun _ => HS.out _ HB4.out, ?_⟩
   refine AnyT.nx (i := 15) rfl ?_
   go_wp2
   refine ⟨fun _ => HS.out _ HB4.out, ?_⟩
   refine AnyT.nx (i := 16) rfl ?_
   go_wp2
   refine ⟨fun _ => HS.out _ HB4.out, ?_⟩
   refine AnyT.done (by kernel_rfl) ?_ _
   go_wp2
   go_ret2
   exact ⟨by rw [HE4.out] <;> rfl, zAA HB3.out HB4.out⟩
  ·have HE4 := hid (show E = (decide (cv = 0), 0) by rw [HE3.out]; simp)
   refine AnyT.tD (i := 5) (v := .slice a3 n3 cap3) rfl rfl (by rintro w' q0; go_simp) (HS.out _ HB4.out) ?_; go_frame
   refine AnyT.tD (i := 7) (v := .slice (some ⟨cb, coff, none⟩) Q cc) rfl rfl (by rintro w' q0; go_simp) (HS.out _ HB4.out) ?_; go_frame
   refine AnyT.tD (i := 8) (v := .pointer (some ⟨cb, coff, none⟩)) rfl rfl (by rintro w' q0; go_simp) (HS.out _ HB4.out) ?_; go_frame
   refine AnyT.tD (i := 9) (v := .pointer (some ⟨cb, coff + 1, none⟩)) rfl rfl (by rintro w' q0; go_simp) (HS.out _ HB4.out) ?_; go_frame
   refine AnyT.tD (i := 10) (v := .slice v1a v1n v1c) rfl rfl (by rintro w' q0; go_simp) (HS.out _ HB4.out) ?_; go_frame
   refine AnyT.nx (i := 6) rfl ?_
   go_wp2_with (go_at_call 87; refine (HNX.out _ (zAA HB3.out HB4.out)).mono ?_; rintro e w5 ⟨v5, rfl, hv5, hb5⟩; refine Stop.of ?_)
   refine Stop.go ?_
   obtain ⟨ps, pa', pk, pc', pb, pm, pe, rfl, _⟩ := hv5.agg
   have HB5 := hid (zAA HB4.out hb5)
   have HV5 := hid hv5
   clear hv5 hb5
   go_wp2
   refine ⟨fun _ => HS.out _ HB5.out, ?_⟩
   refine AnyT.nx (i := 11) rfl ?_
   go_wp2_with (go_at_call 87; refine (HN2.out _ HB5.out).mono ?_; rintro e w6 ⟨v6, rfl, hv6, hb6⟩; refine Stop.of ?_)
   refine Stop.go ?_
   obtain ⟨qs, qa, qk, qc, qb, qm, qe, rfl, _⟩ := hv6.agg
   have HB6 := hid (zAA HB5.out hb6)
   have HORR := hid (HOR.out w6 _ _ (HV5.out.below hb6) hv6)
   clear hv6 hb6 HV5
   go_wp2
   refine ⟨fun _ => HS.out _ HB6.out, ?_⟩
   refine AnyT.nx (i := 12) rfl ?_
   go_wp2_with (go_at_call 21; refine HORR.out.mono ?_; rintro e w7 ⟨rfl, hb7⟩; refine Stop.of ?_)
   refine Stop.go ?_
   have HB7 := hid (zAA HB6.out hb7)
   clear hb7
   go_wp2
   refine ⟨fun _ => HS.out _ HB7.out, ?_⟩
   refine AnyT.nx (i := 13) rfl ?_
   go_wp2
   refine ⟨fun _ => HS.out _ HB7.out, ?_⟩
   refine AnyT.nx (i := 14) rfl ?_
   go_wp2
   refine ⟨fun _ => HS.out _ HB7.out, ?_⟩
   refine AnyT.nx (i := 15) rfl ?_
   go_wp2
   refine ⟨fun _ => HS.out _ HB7.out, ?_⟩
   refine AnyT.nx (i := 16) rfl ?_
   go_wp2
   refine ⟨fun _ => HS.out _ HB7.out, ?_⟩
   refine AnyT.done (by kernel_rfl) ?_ _
   by_cases hcv0 : cv = 0
   ·have HE5 := hid (show E = (true, 0) by rw [HE4.out, decide_eq_true hcv0])
    subst hcv0
    go_wp2
    go_ret2
    exact ⟨by rw [HE5.out] <;> rfl, zAA HB3.out HB7.out⟩
   ·have HE5 := hid (show E = (false, 0) by rw [HE4.out, decide_eq_false hcv0])
    have hce : (cv == 0) = false := by simpa using hcv0
    go_wp2
    go_ret2
    refine ⟨?_, zAA HB3.out HB7.out⟩
    rw [HE5.out]
    simp [hcv0]
end
section
open Go.RowKit
theorem two5_c (w : World) : Calls Tryz.prog 72 #[] w fun e w' => Below w.heap.size w w' ∧ ∃ a cap, e = .returned (.slice a 2 cap) ∧ zAO w' a twoM := by
 go_enter Tryz.func72, Tryz.ntmps72
 go_wp2
 go_ret
 exact ⟨(((Below.refl _ _).alloc (Nat.le_refl _) _).alloc (by simp) _).alloc (by simp; omega) _, _, _, rfl, two_rows w⟩
theorem zGX (w : World) (n : Int) : Calls Tryz.prog 51 #[.int .i64 n] w fun e w' => e = .returned (.agg #[.int .i64 n, .int .i64 1]) ∧ Below w.heap.size w w' := by
 obtain ⟨rb, hrb⟩ := exq (w.heap.size)
 obtain ⟨wz, hwz⟩ := exq (w.alloc (.cells #[.int .i64 0, .int .i64 0] 29))
 have hbz : Below w.heap.size w wz := by rw [hwz]; exact (Below.refl _ _).alloc (Nat.le_refl _) _
 have hrz : RatI wz rb (0, 0) := by rw [hwz, hrb]; exact RatI.made w (0, 0)
 obtain ⟨r0, r1, r2, r3, r4⟩ := hrz.cells
 have X1 := hid (RatI.set (p := (n, 1)) hrz)
 have X2 := hid ((zBF wz rb (.int .i64 n) (.int .i64 1)).below hbz hbz.size (fun k hk => by show k ≠ rb; omega))
 have HWZ := hid hwz
 clear hwz hrz hbz
 go_enter Tryz.func51, Tryz.ntmps51
 go_upto_region 1 with fail
 rw [<- hrb, <- HWZ.out]
 clear hrb
 go_wp2
 clear r0 r1 r2 r3 r4
 generalize (wz.setCell ⟨rb, 0, none⟩ (.int .i64 n)).setCell ⟨rb, 1, none⟩ (.int .i64 1) = WF at X1 X2 ⊢
 obtain ⟨t0, t1, t2, t3, t4⟩ := X1.out.cells
 refine bodyPost_ret (v := .agg #[.int .i64 n, .int .i64 1]) ?_ rfl ⟨rfl, X2.out⟩
 simp [results, Tryz.results51, go_sem, t0, t1, t2, t3, t4]
theorem aw5_val : valE twoM [1, -1] = ((2, 1), 0) := by decide +kernel
theorem aw5_prov : zDK twoM [1, 1] [(0, 1), (1, 1), (0, 1)] [(1, 1), (0, 1)] = true := by decide +kernel
theorem ints2 (w : World) (x y : Int) (T : TypeId) : zAK (w.alloc (.cells #[.int .i64 x, .int .i64 y] T)) (some ⟨w.heap.size, 0, none⟩) [x, y] := fun j hj => ⟨w.heap.size, 0, rfl, by simp, by
 rw [World.cell?_alloc_at _ _ _ _ rfl]
 match j, hj with
 | 0, _ => rfl
 | 1, _ => rfl⟩
theorem rats3 (w : World) (a b c d e f : Int) (T : TypeId) : zBS (w.alloc (.cells #[.int .i64 a, .int .i64 b, .int .i64 c, .int .i64 d, .int .i64 e, .int .i64 f] T)) (some ⟨w.heap.size, 0, none⟩) [(a, b), (c, d), (e, f)] := fun j hj => ⟨w.heap.size, 0, rfl, by simp, by
 rw [World.cell?_alloc_at _ _ _ _ rfl]
 match j, hj with
 | 0, _ => rfl
 | 1, _ => rfl
 | 2, _ => rfl, by
 rw [World.cell?_alloc_at _ _ _ _ rfl]
 match j, hj with
 | 0, _ => rfl
 | 1, _ => rfl
 | 2, _ => rfl⟩
theorem rats2 (w : World) (a b c d : Int) (T : TypeId) : zBS (w.alloc (.cells #[.int .i64 a, .int .i64 b, .int .i64 c, .int .i64 d] T)) (some ⟨w.heap.size, 0, none⟩) [(a, b), (c, d)] := fun j hj => ⟨w.heap.size, 0, rfl, by simp, by
 rw [World.cell?_alloc_at _ _ _ _ rfl]
 match j, hj with
 | 0, _ => rfl
 | 1, _ => rfl, by
 rw [World.cell?_alloc_at _ _ _ _ rfl]
 match j, hj with
 | 0, _ => rfl
 | 1, _ => rfl⟩
theorem awake5_c (w : World) : Calls Tryz.prog 18 #[] w fun e w' => e = .returned (.bool true) ∧ Below w.heap.size w w' := by
 go_enter Tryz.func18, Tryz.ntmps18
 go_upto_region 2 with (go_at_call 72; refine (two5_c _).mono ?_; rintro e w1 ⟨hb1, a, cap, rfl, hR⟩; refine Stop.of ?_)
 refine Stop.go ?_
 have hbA : Below w1.heap.size w1 (w1.alloc (.cells #[.int .i64 1, .int .i64 (-1)] 3)) := (Below.refl _ _).alloc (Nat.le_refl _) _
 have HV := hid (dvalue_c (w1.alloc (.cells #[.int .i64 1, .int .i64 (-1)] 3)) a (some ⟨w1.heap.size, 0, none⟩) 2 cap 2 2 twoM [1, -1] rfl rfl (by decide) (by decide) (hR.below hbA) (ints2 w1 1 (-1) _))
 rw [aw5_val] at HV
 have HB1 := hid (zAA hb1 hbA)
 clear hb1 hbA hR
 go_upto_region 2 with (go_at_call 19; refine HV.out.mono ?_; rintro e w2 ⟨rfl, hb2⟩; refine Stop.of ?_)
 refine Stop.go ?_
 have HB2 := hid (zAA HB1.out hb2)
 clear hb2 HB1 HV
 have hr : ratV (2, 1) = .agg #[.int .i64 2, .int .i64 1] := rfl
 rw [hr]
 clear hr
 go_upto_region 2 with fail
 go_upto_region 3 with (go_at_call 51; refine (zGX _ _).mono ?_; rintro e w3 ⟨rfl, hb3⟩; have HB3 := hid hb3; clear hb3; refine Stop.of ?_)
 refine Stop.go ?_
 go_upto_region 3 with (go_at_call 51; refine (zGX _ _).mono ?_; rintro e w4 ⟨rfl, hb4⟩; have HB4 := hid hb4; clear hb4; refine Stop.of ?_)
 refine Stop.go ?_
 go_upto_region 3 with (go_at_call 51; refine (zGX _ _).mono ?_; rintro e w5 ⟨rfl, hb5⟩; have HB5 := hid hb5; clear hb5; refine Stop.of ?_)
 refine Stop.go ?_
 go_upto_region 3 with (go_at_call 51; refine (zGX _ _).mono ?_; rintro e w6 ⟨rfl, hb6⟩; have HB6 := hid hb6; clear hb6; refine Stop.of ?_)
 refine Stop.go ?_
 go_upto_region 3 with (go_at_call 51; refine (zGX _ _).mono ?_; rintro e w7 ⟨rfl, hb7⟩; have HB7 := hid hb7; clear hb7; refine Stop.of ?_)
 refine Stop.go ?_
 go_upto_region 3 with fail
 have B25 : Below (w2.alloc (.cells #[.int .i64 2, .int .i64 1] 29)).heap.size (w2.alloc (.cells #[.int .i64 2, .int .i64 1] 29)) w5 := zAA HB3.out (zAA HB4.out HB5.out)
 have B57 : Below (w5.alloc (.cells #[.int .i64 0, .int .i64 1, .int .i64 1, .int .i64 1, .int .i64 0, .int .i64 1] 29)).heap.size (w5.alloc (.cells #[.int .i64 0, .int .i64 1, .int .i64 1, .int .i64 1, .int .i64 0, .int .i64 1] 29)) w7 := zAA HB6.out HB7.out
 have R2 := RatI.made w2 (2, 1)
 have R5 : RatI w5 w2.heap.size (2, 1) := R2.keep (B25.block _ R2.lt)
 have bC : Below w5.heap.size w5 (w5.alloc (.cells #[.int .i64 0, .int .i64 1, .int .i64 1, .int .i64 1, .int .i64 0, .int .i64 1] 29)) := (Below.refl _ _).alloc (Nat.le_refl _) _
 have b57 : Below w5.heap.size w5 w7 := zAA bC B57
 have R7 : RatI w7 w2.heap.size (2, 1) := R5.keep (b57.block _ R5.lt)
 have X7 : zBS w7 (some ⟨w5.heap.size, 0, none⟩) [(0, 1), (1, 1), (0, 1)] := (rats3 w5 0 1 1 1 0 1 29).below B57
 have bA : Below w2.heap.size w2 (w2.alloc (.cells #[.int .i64 2, .int .i64 1] 29)) := (Below.refl _ _).alloc (Nat.le_refl _) _
 have bw7 : Below w.heap.size w w7 := zAA HB2.out (zAA bA (zAA B25 b57))
 obtain ⟨b1, hb1⟩ := exq (w2.heap.size)
 obtain ⟨ap, hap⟩ := exq (w5.heap.size)
 obtain ⟨ax, hax⟩ := exq (w7.heap.size)
 obtain ⟨b3, hb3⟩ := exq (w7.heap.size + 1)
 obtain ⟨wB, hwB⟩ := exq ((w7.alloc (.cells #[.int .i64 1, .int .i64 1, .int .i64 0, .int .i64 1] 29)).alloc (.cells #[.slice (some ⟨w5.heap.size, 0, none⟩) 3 3, .slice (some ⟨w7.heap.size, 0, none⟩) 2 2] 78))
 have bD : Below w7.heap.size w7 (w7.alloc (.cells #[.int .i64 1, .int .i64 1, .int .i64 0, .int .i64 1] 29)) := (Below.refl _ _).alloc (Nat.le_refl _) _
 have bB : Below w7.heap.size w7 wB := by rw [hwB]; exact bD.alloc bD.size _
 have bDB : Below (w7.alloc (.cells #[.int .i64 1, .int .i64 1, .int .i64 0, .int .i64 1] 29)).heap.size (w7.alloc (.cells #[.int .i64 1, .int .i64 1, .int .i64 0, .int .i64 1] 29)) wB := by rw [hwB]; exact (Below.refl _ _).alloc (Nat.le_refl _) _
 have HRB := hid (R7.keep (bB.block _ R7.lt))
 have HPB := hid (X7.below bB)
 have HXB := hid ((rats2 w7 1 1 0 1 29).below bDB)
 have HLB := hid (show wB.heap[w7.heap.size + 1]? = some (.cells #[.slice (some ⟨w5.heap.size, 0, none⟩) 3 3, .slice (some ⟨w7.heap.size, 0, none⟩) 2 2] 78 (0, 0)) by
  have h := World.alloc_heap_new (w7.alloc (.cells #[.int .i64 1, .int .i64 1, .int .i64 0, .int .i64 1] 29)) (.cells #[.slice (some ⟨w5.heap.size, 0, none⟩) 3 3, .slice (some ⟨w7.heap.size, 0, none⟩) 2 2] 78)
  rw [World.size_alloc] at h
  rw [hwB]; exact h)
 have HBW := hid (zAA bw7 bB)
 rw [<- hwB]
 rw [<- hb1] at HRB ⊢
 rw [<- hb3] at HLB ⊢
 rw [<- hap] at HPB HLB ⊢
 rw [<- hax] at HXB HLB ⊢
 clear B25 B57 R2 R5 bC b57 R7 X7 bA bw7 hb1 hap hax hb3 hwB bD bB bDB HB2 HB3 HB4 HB5 HB6 HB7
 have HS := hid (fun (X : World) (hX : Below wB.heap.size wB X) => show X.cell? ⟨b1, 0, none⟩ = some (.int .i64 2) ∧ X.cell? ⟨b1, 1, none⟩ = some (.int .i64 1) ∧ X.cell? ⟨b3, 0, none⟩ = some (.slice (some ⟨ap, 0, none⟩) 3 3) ∧ X.cell? ⟨b3, 1, none⟩ = some (.slice (some ⟨ax, 0, none⟩) 2 2) from by
  obtain ⟨c0, c1, _⟩ := (HRB.out.keep (hX.block _ HRB.out.lt)).cells
  have h := (hX.block _ (Array.getElem?_eq_some_iff.1 HLB.out).1).trans HLB.out
  exact ⟨c0, c1, by simp [World.cell?, h], by simp [World.cell?, h]⟩)
 have HPV := hid (fun (X : World) (a a3 : Option Addr) (cap cap3 : Nat) (hX : Below wB.heap.size wB X) (hR : zAO X a twoM) (hY : zAK X a3 [1, 1]) => dproves_c X a a3 (some ⟨ap, 0, none⟩) (some ⟨ax, 0, none⟩) 2 cap 2 cap3 3 3 2 2 twoM [1, 1] [(0, 1), (1, 1), (0, 1)] [(1, 1), (0, 1)] rfl rfl rfl rfl (by decide) (by decide) (by decide) (by decide) hR hY (HPB.out.below hX) (HXB.out.below hX))
 rw [aw5_prov] at HPV
 refine zAH (fun j X => wAll j = true -> X.cell? ⟨b1, 0, none⟩ = some (.int .i64 2) ∧ X.cell? ⟨b1, 1, none⟩ = some (.int .i64 1) ∧ X.cell? ⟨b3, 0, none⟩ = some (.slice (some ⟨ap, 0, none⟩) 3 3) ∧ X.cell? ⟨b3, 1, none⟩ = some (.slice (some ⟨ax, 0, none⟩) 2 2)) (by kernel_rfl) ?_
 have hbd : Below wB.heap.size wB wB.drew := (Below.refl _ _).drew
 generalize wB.drew = wd at hbd ⊢
 have HBD := hid hbd
 clear hbd
 refine AnyT.nx (i := 0) rfl ?_
 go_wp2
 refine ⟨fun _ => HS.out _ HBD.out, ?_⟩
 refine AnyT.nx (i := 1) rfl ?_
 go_wp2
 refine ⟨fun _ => HS.out _ HBD.out, ?_⟩
 refine AnyT.nx (i := 2) rfl ?_
 go_wp2
 refine ⟨fun _ => HS.out _ HBD.out, ?_⟩
 refine AnyT.tD (i := 3) (v := .agg #[.int .i64 2, .int .i64 1]) rfl rfl (by rintro w' ⟨q0, q1, q2, q3⟩; go_simp) (HS.out _ HBD.out) ?_; go_frame
 refine AnyT.nx (i := 4) rfl ?_
 go_wp2_with (go_at_call 51; refine (zGX _ _).mono ?_; rintro e w3 ⟨rfl, hb3⟩; have HB3 := hid (zAA HBD.out hb3); clear hb3; refine Stop.of ?_)
 refine Stop.go ?_
 go_wp2
 refine ⟨fun _ => HS.out _ HB3.out, ?_⟩
 refine AnyT.nx (i := 5) rfl ?_
 go_wp2
 refine ⟨fun _ => HS.out _ HB3.out, ?_⟩
 refine AnyT.nx (i := 6) rfl ?_
 go_wp2
 refine ⟨fun _ => HS.out _ HB3.out, ?_⟩
 refine AnyT.nx (i := 7) rfl ?_
 go_wp2
 refine ⟨fun _ => HS.out _ HB3.out, ?_⟩
 refine AnyT.tD (i := 10) (v := .agg #[.slice (some ⟨ap, 0, none⟩) 3 3, .slice (some ⟨ax, 0, none⟩) 2 2]) rfl rfl (by rintro w' ⟨q0, q1, q2, q3⟩; go_simp) (HS.out _ HB3.out) ?_; go_frame
 refine AnyT.next2 (i := 8) (j := 9) (by kernel_rfl) (wpOp_of_list rfl ?_) (wpOp_of_list rfl ?_)
 ·go_wp2_with (go_at_call 72; refine (two5_c _).mono ?_; rintro e w4 ⟨hb4, a4, cap4, rfl, hR4⟩; have HB4 := hid (zAA HB3.out hb4); have HR4 := hid hR4; clear hb4 hR4; refine Stop.of ?_)
  refine Stop.go ?_
  go_wp2
  refine ⟨fun _ => HS.out _ HB4.out, ?_⟩
  refine AnyT.nx (i := 9) rfl ?_
  go_wp2
  have hb5 : Below w4.heap.size w4 (w4.alloc (.cells #[.int .i64 1, .int .i64 1] 3)) := (Below.refl _ _).alloc (Nat.le_refl _) _
  have HB5 := hid (zAA HB4.out hb5)
  have HPV2 := hid (HPV.out _ a4 (some ⟨w4.heap.size, 0, none⟩) cap4 2 HB5.out (HR4.out.below hb5) (ints2 w4 1 1 3))
  clear hb5
  refine ⟨fun _ => HS.out _ HB5.out, ?_⟩
  refine AnyT.nx (i := 11) rfl ?_
  go_wp2_with (go_at_call 61; refine HPV2.out.mono ?_; rintro e w8 ⟨rfl, hb8⟩; have HB8 := hid (zAA HB5.out hb8); clear hb8; refine Stop.of ?_)
  refine Stop.go ?_
  go_wp2
  refine ⟨fun _ => HS.out _ HB8.out, ?_⟩
  refine AnyT.nx (i := 12) rfl ?_
  go_wp2
  refine ⟨fun _ => HS.out _ HB8.out, ?_⟩
  refine AnyT.nx (i := 13) rfl ?_
  go_wp2
  refine ⟨fun _ => HS.out _ HB8.out, ?_⟩
  refine AnyT.done (by kernel_rfl) ?_ _
  go_wp2
  go_ret
  exact ⟨rfl, zAA HBW.out HB8.out⟩
 ·go_wp2
  obtain ⟨w4, hw4⟩ := exq (w3.alloc (.cells #[.int .i64 1, .int .i64 1] 3))
  have hb4 : Below w3.heap.size w3 w4 := by rw [hw4]; exact (Below.refl _ _).alloc (Nat.le_refl _) _
  have HY4 := hid (show zAK w4 (some ⟨w3.heap.size, 0, none⟩) [1, 1] by rw [hw4]; exact ints2 w3 1 1 3)
  have HB4 := hid (zAA HB3.out hb4)
  rw [<- hw4]
  clear hb4 hw4
  refine ⟨fun _ => HS.out _ HB4.out, ?_⟩
  refine AnyT.nx (i := 8) rfl ?_
  go_wp2_with (go_at_call 72; refine (two5_c _).mono ?_; rintro e w5 ⟨hb5, a4, cap4, rfl, hR4⟩; have HB5 := hid (zAA HB4.out hb5); have HPV2 := hid (HPV.out _ a4 (some ⟨w3.heap.size, 0, none⟩) cap4 2 HB5.out hR4 (HY4.out.below hb5)); clear hb5 hR4; refine Stop.of ?_)
  refine Stop.go ?_
  go_wp2
  refine ⟨fun _ => HS.out _ HB5.out, ?_⟩
  refine AnyT.nx (i := 11) rfl ?_
  go_wp2_with (go_at_call 61; refine HPV2.out.mono ?_; rintro e w8 ⟨rfl, hb8⟩; have HB8 := hid (zAA HB5.out hb8); clear hb8; refine Stop.of ?_)
  refine Stop.go ?_
  go_wp2
  refine ⟨fun _ => HS.out _ HB8.out, ?_⟩
  refine AnyT.nx (i := 12) rfl ?_
  go_wp2
  refine ⟨fun _ => HS.out _ HB8.out, ?_⟩
  refine AnyT.nx (i := 13) rfl ?_
  go_wp2
  refine ⟨fun _ => HS.out _ HB8.out, ?_⟩
  refine AnyT.done (by kernel_rfl) ?_ _
  go_wp2
  go_ret
  exact ⟨rfl, zAA HBW.out HB8.out⟩
end
section
open Go.RowKit
def AnyB (e : Ending) : Prop := ∃ b, e = .returned (.bool b)
theorem AnyB.of {e : Ending} (b : Bool) (h : e = .returned (.bool b)) : AnyB e := ⟨b, h⟩
theorem long5_c (w : World) (a : Option Addr) (n cap : Nat) (L : List (List Int)) (hn : L.length = n) (hm : n <= maxLen) (H : zAO w a L) :
 Calls Tryz.prog 25 #[.slice a n cap] w fun e w' => AnyB e ∧ w = w' := by
 have HN := hid hn
 have HH := hid H
 clear hn H
 unfold maxLen at hm
 go_enter Tryz.func25, Tryz.ntmps25
 go_wp2
 go_loop [7] (fun i => ∃ k : Nat, k <= n ∧ i = .int .i64 k) (fun i => n - (intOf i).toNat)
 case atStart => exact ⟨0, Nat.zero_le _, rfl⟩
 case round =>
  obtain ⟨k, hk, rfl⟩ := hrel
  by_cases hlt : k < n
  ·have hkl : k < L.length := by rw [HN.out]; exact hlt
   obtain ⟨b, off, ra, rn, rc, rfl, hbs, hq0, hrn, hrm, hri⟩ := HH.out k hkl
   clear hrn hri hkl hrm
   by_cases h1 : 100 < rn
   ·have hi : (100 : Int) < (rn : Int) := by omega
    go_wp2
    go_ret
    exact ⟨AnyB.of _ rfl, rfl⟩
   ·have hi : ¬ (100 : Int) < (rn : Int) := by omega
    go_wp2
    go_round
    case rel => exact ⟨k + 1, by omega, by go_num⟩
    case measure => simp [intOf]; omega
  ·go_wp2
   go_ret
   exact ⟨AnyB.of _ rfl, rfl⟩
theorem wide5_c (w : World) (a : Option Addr) (n cap : Nat) (L : List (List Rt)) (hn : L.length = n) (hm : n <= maxLen) (H : PicsAt w a L) :
 Calls Tryz.prog 26 #[.slice a n cap] w fun e w' => AnyB e ∧ w = w' := by
 have HN := hid hn
 have HH := hid H
 clear hn H
 unfold maxLen at hm
 go_enter Tryz.func26, Tryz.ntmps26
 go_wp2
 go_loop [7] (fun i => ∃ k : Nat, k <= n ∧ i = .int .i64 k) (fun i => n - (intOf i).toNat)
 case atStart => exact ⟨0, Nat.zero_le _, rfl⟩
 case round =>
  obtain ⟨k, hk, rfl⟩ := hrel
  by_cases hlt : k < n
  ·have hkl : k < L.length := by rw [HN.out]; exact hlt
   obtain ⟨b, off, ra, rn, rc, rfl, hbs, hq0, hrn, hrm, hri⟩ := HH.out k hkl
   clear hrn hri hkl hrm
   by_cases h1 : 60 < rn
   ·have hi : (60 : Int) < (rn : Int) := by omega
    go_wp2
    go_ret
    exact ⟨AnyB.of _ rfl, rfl⟩
   ·have hi : ¬ (60 : Int) < (rn : Int) := by omega
    go_wp2
    go_round
    case rel => exact ⟨k + 1, by omega, by go_num⟩
    case measure => simp [intOf]; omega
  ·go_wp2
   go_ret
   exact ⟨AnyB.of _ rfl, rfl⟩
theorem pics_one {W : World} {a2 : Option Addr} {n2 cap2 : Nat} {h : List Rt} (hn2 : h.length = n2) (hm2 : n2 <= maxLen) (H2 : zBS W a2 h) :
 PicsAt (W.alloc (.cells #[.slice a2 n2 cap2] 42)) (some ⟨W.heap.size, 0, none⟩) [h] := by
 have hb : Below W.heap.size W (W.alloc (.cells #[.slice a2 n2 cap2] 42)) := (Below.refl _ _).alloc (Nat.le_refl _) _
 intro j hj
 match j, hj with
 | 0, _ => exact ⟨_, 0, a2, n2, cap2, rfl, by simp, by rw [World.cell?_alloc_at _ _ _ _ rfl]; rfl, hn2, hm2, H2.below hb⟩
end
section
open Go.RowKit
theorem dualLeast_c (w : World) (a : Option Addr) (n cap : Nat) (M : Mask) (hn : M.length = n) (hm : n <= maxLen) (H : zAO w a M) (_ : ∀ y ∈ M, ∀ z ∈ y, zEU z)
 (a2 : Option Addr) (n2 cap2 : Nat) (Y : List Int) (hn2 : Y.length = n2) (hm2 : n2 <= maxLen) (H2 : zAK w a2 Y) (_ : ∀ z ∈ Y, zEU z)
 (a3 : Option Addr) (n3 cap3 : Nat) (x : List Rt) (hn3 : x.length = n3) (hm3 : n3 <= maxLen) (H3 : zBS w a3 x) (_ : ∀ r ∈ x, zEU r.1 ∧ zEU r.2) :
 Calls Tryz.prog 4 #[.slice a n cap, .slice a2 n2 cap2, .slice a3 n3 cap3] w fun e w' => e = .returned (.bool true) ∧ Below w.heap.size w w' := by
 have HAW := hid (fun X => awake5_c X)
 have HLI := hid (light_c w a n cap M hn hm H)
 have HLO := hid (fun (X : World) (hX : Below w.heap.size w X) => long5_c (X.alloc (.cells #[.slice a2 n2 cap2] 24)) (some ⟨X.heap.size, 0, none⟩) 1 1 [Y] rfl (by decide) (rows_one hn2 hm2 (H2.below hX)))
 have HWI := hid (fun (X : World) (hX : Below w.heap.size w X) => wide5_c (X.alloc (.cells #[.slice a3 n3 cap3] 42)) (some ⟨X.heap.size, 0, none⟩) 1 1 [x] rfl (by decide) (pics_one hn3 hm3 (H3.below hX)))
 have HD := hid (fun (X : World) (hX : Below w.heap.size w X) => dleast_c X a a2 a3 n cap n2 cap2 n3 cap3 M Y x hn hn2 hn3 hm hm2 hm3 (H.below hX) (H2.below hX) (H3.below hX))
 have HR := hid (fun (X : World) (hX : Below w.heap.size w X) => r5least_c X a a2 a3 n cap n2 cap2 n3 cap3 M Y x hn hn2 hn3 hm hm2 hm3 (H.below hX) (H2.below hX) (H3.below hX))
 have HVA := hid (fun (X : World) (hX : Below w.heap.size w X) => dvalue_c X a a2 n cap n2 cap2 M Y hn hn2 hm hm2 (H.below hX) (H2.below hX))
 have HNO := hid (fun (X : World) (hX : Below w.heap.size w X) => dNorm_c X a3 n3 cap3 x hn3 hm3 (H3.below hX))
 have HMK := hid (fun (X : World) (hX : Below w.heap.size w X) => r3makes_c X a a3 a2 n cap n3 cap3 n2 cap2 M x Y hn hn3 hn2 hm hm3 hm2 (H.below hX) (H3.below hX) (H2.below hX))
 have HLAW := hid (fun (h1 : zCB M x Y = true) (h2 : (zGB x).2 = 0) => least_law h1 h2)
 have HVB := hid (fun (h : (valE M Y).2 = 0) => (zNY h).2.valid)
 have HNB := hid (fun (h : (zGB x).2 = 0) => show zAJ (zGB x).1 = true from by
  unfold zGB at h ⊢
  split at h
  ·rename_i c
   rw [if_pos c]
   split at h
   ·rename_i c
    rw [if_pos c]
    split at h
    ·rename_i c
     rw [if_pos c]; exact c
    ·cases h
   ·cases h
  ·cases h)
 obtain ⟨E, hE⟩ := exq (zDH M Y x)
 obtain ⟨V, hV⟩ := exq (valE M Y)
 obtain ⟨P, hP⟩ := exq (zGB x)
 obtain ⟨B, hB⟩ := exq (zCB M x Y)
 rw [<- hE] at HD HR HLAW
 rw [<- hV] at HVA HLAW HVB
 rw [<- hP] at HNO HLAW HNB
 rw [<- hB] at HMK HLAW
 obtain ⟨E1, E2⟩ := E
 obtain ⟨⟨vn, vd⟩, V2⟩ := V
 obtain ⟨⟨pn, pd⟩, P2⟩ := P
 simp only [ratV] at HD HR HVA HNO HLAW HVB HNB
 clear hn hn2 hn3 H H2 H3 hE hV hP hB
 go_enter Tryz.func4, Tryz.ntmps4
 go_wp2_with (go_at_call 16; refine HLI.out.mono ?_; rintro e w1 ⟨⟨sb, rfl⟩, rfl⟩; refine Stop.of ?_)
 refine Stop.go ?_
 cases sb
 ·go_wp2_with (go_at_call 18; refine (HAW.out _).mono ?_; rintro e w2 ⟨rfl, hb2⟩)
  go_ret
  exact ⟨rfl, hb2⟩
 go_wp2_with (go_at_call 25; refine (HLO.out _ (Below.refl _ _)).mono ?_; rintro e w1 ⟨⟨lb, rfl⟩, rfl⟩; refine Stop.of ?_)
 refine Stop.go ?_
 obtain ⟨wa, hwa⟩ := exq (w.alloc (.cells #[.slice a2 n2 cap2] 24))
 have HBA := hid (show Below w.heap.size w wa by rw [hwa]; exact (Below.refl _ _).alloc (Nat.le_refl _) _)
 rw [<- hwa]
 clear hwa
 cases lb
 rotate_left
 ·go_wp2_with (go_at_call 18; refine (HAW.out _).mono ?_; rintro e w2 ⟨rfl, hb2⟩)
  go_ret
  exact ⟨rfl, zAA HBA.out hb2⟩
 go_wp2_with (go_at_call 26; refine (HWI.out _ HBA.out).mono ?_; rintro e w1 ⟨⟨wb, rfl⟩, rfl⟩; refine Stop.of ?_)
 refine Stop.go ?_
 obtain ⟨wc, hwc⟩ := exq (wa.alloc (.cells #[.slice a3 n3 cap3] 42))
 have HBC := hid (show Below w.heap.size w wc by rw [hwc]; exact HBA.out.alloc HBA.out.size _)
 rw [<- hwc]
 clear hwc
 cases wb
 rotate_left
 ·go_wp2_with (go_at_call 18; refine (HAW.out _).mono ?_; rintro e w2 ⟨rfl, hb2⟩)
  go_ret
  exact ⟨rfl, zAA HBC.out hb2⟩
 go_wp2_with (go_at_call 27; refine (HD.out _ HBC.out).mono ?_; rintro e w2 ⟨rfl, hb2⟩; have HB2 := hid (zAA HBC.out hb2); clear hb2; refine Stop.of ?_)
 refine Stop.go ?_
 go_wp2_with (go_at_call 28; refine (HR.out _ HB2.out).mono ?_; rintro e w3 ⟨rfl, hb3⟩; have HB3 := hid (zAA HB2.out hb3); clear hb3; refine Stop.of ?_)
 refine Stop.go ?_
 go_upto_region 8 with (go_at_call 19; refine (HVA.out _ HB3.out).mono ?_; rintro e w4 ⟨rfl, hb4⟩; have HB4 := hid (zAA HB3.out hb4); clear hb4; refine Stop.of ?_)
 refine Stop.go ?_
 go_upto_region 8 with fail
 obtain ⟨b4, hb4⟩ := exq (w4.heap.size)
 obtain ⟨w5, hw5⟩ := exq (w4.alloc (.cells #[.int .i64 vn, .int .i64 vd] 29))
 rw [<- hb4, <- hw5]
 have HV5 := hid (show RatI w5 b4 (vn, vd) by rw [hw5, hb4]; exact RatI.made w4 (vn, vd))
 have HB5 := hid (show Below w.heap.size w w5 by rw [hw5]; exact HB4.out.alloc HB4.out.size _)
 clear hb4 hw5
 go_upto_region 9 with (go_at_call 29; refine (HNO.out _ HB5.out).mono ?_; rintro e w6 ⟨rfl, hb6⟩; have HB6 := hid hb6; clear hb6; refine Stop.of ?_)
 refine Stop.go ?_
 go_upto_region 9 with fail
 obtain ⟨b6, hb6⟩ := exq (w6.heap.size)
 obtain ⟨w7, hw7⟩ := exq (w6.alloc (.cells #[.int .i64 pn, .int .i64 pd] 29))
 rw [<- hb6, <- hw7]
 have HP7 := hid (show RatI w7 b6 (pn, pd) by rw [hw7, hb6]; exact RatI.made w6 (pn, pd))
 have h57 : Below w5.heap.size w5 w7 := by rw [hw7]; exact HB6.out.alloc HB6.out.size _
 have HV7 := hid (HV5.out.keep (h57.block _ HV5.out.lt))
 have HB7 := hid (zAA HB5.out h57)
 clear hb6 hw7 h57
 cases B
 ·go_wp2_with (first
   | (go_at_call 30; refine (HMK.out _ HB7.out).mono ?_; rintro e w8 ⟨rfl, hb8⟩)
   | (go_at_call 18; refine (HAW.out _).mono ?_; rintro e w9 ⟨rfl, hb9⟩))
  go_ret
  exact ⟨rfl, zAA HB7.out (zAA hb8 hb9)⟩
 by_cases hp2 : P2 = 0
 rotate_left
 ·have hne : (P2 != 0) = true := by simpa using hp2
  clear hp2
  go_wp2_with (first
   | (go_at_call 30; refine (HMK.out _ HB7.out).mono ?_; rintro e w8 ⟨rfl, hb8⟩)
   | (go_at_call 18; refine (HAW.out _).mono ?_; rintro e w9 ⟨rfl, hb9⟩))
  go_ret
  exact ⟨rfl, zAA HB7.out (zAA hb8 hb9)⟩
 subst hp2
 obtain ⟨hv2, hc0, hE1⟩ := HLAW.out rfl rfl
 have hv2 : V2 = 0 := hv2
 subst hv2
 have hvv := zAS.1 (HVB.out rfl)
 have hpv := zAS.1 (HNB.out rfl)
 have HCM := hid (fun X => rcompare_c (dF pd + dF vd).toNat X pn pd vn vd (by unfold F64; omega) (by unfold F64; omega) (by unfold F64; omega) (by unfold F64; omega) (Nat.le_refl _))
 obtain ⟨cv, hcv⟩ := exq (cmpR pn pd vn vd)
 rw [<- hcv] at HCM hc0 hE1
 clear hvv hpv hcv
 go_upto_region 11 with (go_at_call 30; refine (HMK.out _ HB7.out).mono ?_; rintro e w8 ⟨rfl, hb8⟩; have HB8 := hid hb8; clear hb8; refine Stop.of ?_)
 refine Stop.go ?_
 go_upto_region 11 with fail
 obtain ⟨y0, y1, _⟩ := (HV7.out.keep (HB8.out.block _ HV7.out.lt)).cells
 obtain ⟨z0, z1, _⟩ := (HP7.out.keep (HB8.out.block _ HP7.out.lt)).cells
 go_wp2_with (go_at_call 31; refine (HCM.out _).mono ?_; rintro e w9 ⟨rfl, hb9⟩; have HB9 := hid (zAA HB7.out (zAA HB8.out hb9)); clear hb9; refine Stop.of ?_)
 refine Stop.go ?_
 clear y0 y1 z0 z1
 by_cases hz : cv = 0
 ·subst hz
  have hE1' : E1 = true := by rw [hE1]; rfl
  subst hE1'
  clear hE1
  go_wp2_with (go_at_call 18; refine (HAW.out _).mono ?_; rintro e wA ⟨rfl, hbA⟩)
  go_ret
  exact ⟨rfl, zAA HB9.out hbA⟩
 ·have hE1' : E1 = false := by rw [hE1]; exact decide_eq_false hz
  subst hE1'
  have hce : (cv == 0) = false := by simpa using hz
  clear hE1
  go_wp2_with (go_at_call 18; refine (HAW.out _).mono ?_; rintro e wA ⟨rfl, hbA⟩)
  go_ret
  exact ⟨rfl, zAA HB9.out hbA⟩
end
end Go.Proofs.YtlffndehhhpgjaaGreat
