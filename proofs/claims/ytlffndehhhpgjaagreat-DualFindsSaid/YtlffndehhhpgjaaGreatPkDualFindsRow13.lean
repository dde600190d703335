/- Walks and plain laws for DualFindsRow, part 13. -/
import Derived.Test.YtlffndehhhpgjaaGreatPkDualFindsRow12
namespace Go.Proofs.YtlffndehhhpgjaaGreat
set_option linter.unusedVariables false
set_option linter.unusedSimpArgs false
set_option maxRecDepth 100000
set_option maxHeartbeats 4000000
section
open Go.RowKit
theorem sratio_c (w : World) (n d : Int) (hn : -170141183460469231731687303715884105728 < n ∧ n < 170141183460469231731687303715884105728) (hd : 0 < d ∧ d < 166153499473114484112975882535043072) :
 Calls Tryz.prog 83 #[sumV n d] w fun e w' => RatioR n d e ∧ Below w.heap.size w w' := by
 obtain ⟨N, hN⟩ : ∃ N : Int, N = (n.natAbs : Int) := ⟨_, rfl⟩
 obtain ⟨n1, n2, pn⟩ := WP.ex n
 obtain ⟨d1, d2, pd⟩ := WP.ex d
 obtain ⟨m1, m2, pm⟩ := WP.ex N
 obtain ⟨q1, q2, pq⟩ := WP.ex (N / d)
 obtain ⟨r1, r2, pr⟩ := WP.ex (N % d)
 have HSG := hid (show ∀ X : World, Calls Tryz.prog 148 #[.agg #[.int .i64 n1, .int .u64 n2]] X fun e w' => e = .returned (.int .i64 (cmpI n 0)) ∧ Below X.heap.size X w' from fun X => by
  have := zJM X n hn
  rw [pn.val] at this; exact this)
 have HOP := hid (show n < 0 -> ∀ X : World, Calls Tryz.prog 149 #[.agg #[.int .i64 n1, .int .u64 n2]] X fun e w' => e = .returned (.agg #[.int .i64 m1, .int .u64 m2]) ∧ Below X.heap.size X w' from fun h X => by
  have := zLH X n hn
  rw [pn.val, show -n = N by omega, pm.val] at this; exact this)
 have HOV := hid (show ∀ X : World, Calls Tryz.prog 150 #[.agg #[.int .i64 m1, .int .u64 m2], .agg #[.int .i64 d1, .int .u64 d2]] X fun e w' => e = .returned (.tuple #[.agg #[.int .i64 q1, .int .u64 q2], .agg #[.int .i64 r1, .int .u64 r2]]) ∧ Below X.heap.size X w' from fun X => by
  have := zOE X N d (by omega) (by omega)
  rw [pm.val, pd.val, pq.val, pr.val] at this; exact this)
 have hmn : ¬ n < 0 -> m1 = n1 ∧ m2 = n2 := fun h => by
  have e : N = n := by omega
  rw [pm.1, pm.2, pn.1, pn.2, e]; exact ⟨rfl, rfl⟩
 rw [pn.sum pd]
 obtain ⟨s, hs⟩ := exq (w.heap.size)
 obtain ⟨wz, hwz⟩ := exq (((w.alloc (.cells #[.int .i64 n1, .int .u64 n2, .int .i64 d1, .int .u64 d2] 102)).alloc (.cells #[.int .i64 0, .int .i64 0] 29)).alloc (.cells #[.int .i64 n1, .int .u64 n2] 100))
 have hsz : wz.heap.size = s + 3 := by rw [hwz, hs]; simp
 have SZ : SumB wz s n d := by
  rw [hwz, hs]
  exact ((SumB.made w pn pd).keep (Below.heap_alloc _ _ _ (by simp))).keep (Below.heap_alloc _ _ _ (by simp; omega))
 have RZ : wz.heap[s + 1]? = some (.cells #[.int .i64 0, .int .i64 0] 29 (0, 0)) := by
  have h := World.alloc_heap_new (w.alloc (.cells #[.int .i64 n1, .int .u64 n2, .int .i64 d1, .int .u64 d2] 102)) (.cells #[.int .i64 0, .int .i64 0] 29)
  rw [World.size_alloc] at h
  rw [hwz, hs, Below.heap_alloc _ _ _ (by simp)]
  exact h
 have NZ : zBS wz (s + 2) n := by
  have h := zBS.made ((w.alloc (.cells #[.int .i64 n1, .int .u64 n2, .int .i64 d1, .int .u64 d2] 102)).alloc (.cells #[.int .i64 0, .int .i64 0] 29)) pn
  rw [World.size_alloc, World.size_alloc] at h
  rw [hwz, hs]
  exact h
 have BZ : Below w.heap.size w wz := by rw [hwz]; exact (((Below.refl _ _).alloc (Nat.le_refl _) _).alloc (by simp) _).alloc (by simp; omega) _
 have HSZ := hid hsz
 have HS := hid SZ
 have HR := hid RZ
 have HN0 := hid NZ
 have HB := hid BZ
 have PN := hid pn
 have PD := hid pd
 have PM := hid pm
 have PQ := hid pq
 have PR := hid pr
 have HNE := hid hN
 have HSV := hid hs
 have HND := hid (And.intro hn hd)
 have hsg : (n < 0 ∧ cmpI n 0 < 0) ∨ (¬ n < 0 ∧ ¬ cmpI n 0 < 0 ∧ m1 = n1 ∧ m2 = n2) := by
  by_cases h : n < 0
  ·exact .inl ⟨h, by unfold cmpI; rw [if_pos h]; decide⟩
  ·exact .inr ⟨h, by unfold cmpI; rw [if_neg h]; split <;> decide, hmn h⟩
 have HSG2 := hid hsg
 clear hsg hsz SZ RZ NZ BZ pn pd pm pq pr hN hn hd hmn
 go_enter Tryz.func83, Tryz.ntmps83
 go_upto_region 2 with fail
 rw [<- hs, <- hwz]
 clear hs hwz
 obtain ⟨v0, v1, v2, v3, v4⟩ := HN0.out.cells PN.out
 go_upto_if 15 with (go_at_call 148; refine (HSG.out _).mono ?_; rintro e w1 ⟨rfl, hb1⟩; refine Stop.of ?_)
 refine Stop.go ?_
 have HB1 := hid hb1
 clear hb1 v0 v1 v2 v3 v4
 go_upto_if 15 with fail
 go_cut [3] from 13 to 17 (fun v wx => v = .bool false ∧ SumB wx s n d ∧ wx.heap[s + 1]? = some (.cells #[.int .i64 0, .int .i64 0] 29 (0, 0)) ∧ zBS wx (s + 2) N ∧ Below w.heap.size w wx)
 case first =>
  have hN2 := HN0.out.keep (HB1.out.block _ HN0.out.lt)
  have hS2 := HS.out.keep (HB1.out.block _ HS.out.lt)
  have hR2 := (HB1.out.block (s + 1) (by have := HSZ.out; omega)).trans HR.out
  rcases HSG2.out with ⟨h1, h2⟩ | ⟨h1, h2, h3, h4⟩
  ·have HO := hid (HOP.out h1)
   have HN2 := hid hN2
   have HS2 := hid hS2
   have HR2 := hid hR2
   obtain ⟨v0, v1, v2, v3, v4⟩ := hN2.cells PN.out
   clear hN2 hS2 hR2
   go_wp2_with (go_at_call 149; refine (HO.out _).mono ?_; rintro e w2 ⟨rfl, hb2⟩; refine Stop.of ?_)
   refine Stop.go ?_
   have hN3 := HN2.out.keep (hb2.block _ HN2.out.lt)
   have hS3 := HS2.out.keep (hb2.block _ HS2.out.lt)
   have hR3 := (hb2.block (s + 1) (by have := HSZ.out; have := HB1.out.size; omega)).trans HR2.out
   have HN3 := hid hN3
   have K := zBV w2 (s + 2) (.int .i64 m1) (.int .u64 m2)
   have X1 := hid (zBS.set hN3 PM.out)
   have X2 := hid (hS3.keep (K.block s hS3.lt (by show s ≠ s + 2; omega)))
   have X3 := hid ((K.block (s + 1) (by have := hN3.lt; omega) (by show s + 1 ≠ s + 2; omega)).trans hR3)
   have X4 := hid (K.below (zAA HB.out (zAA HB1.out hb2)) (by have := hN3.lt; have := HSV.out; omega) (fun k hk => by have := HSV.out; show k ≠ s + 2; omega))
   clear v0 v1 v2 v3 v4
   obtain ⟨v0, v1, v2, v3, v4⟩ := HN3.out.cells PN.out
   clear hN3 hS3 hR3 hb2 K
   go_wp2
   go_meet
   case rel => exact ⟨rfl, X2.out, X3.out, X1.out, X4.out⟩
  ·have hNn : N = n := by have := HNE.out; omega
   have HX := hid (And.intro hS2 (And.intro hR2 (And.intro hN2 (zAA HB.out HB1.out))))
   rw [<- hNn] at HX
   have HNN := hid hNn
   clear hN2 hS2 hR2 hNn h3 h4
   go_wp2
   go_meet
   case rel => exact ⟨rfl, by rw [<- HNN.out]; exact HX.out.1, HX.out.2.1, HX.out.2.2.1, HX.out.2.2.2⟩
 case rest =>
  obtain ⟨rfl, hS, hR, hN, hBc⟩ := hcut
  obtain ⟨v0, v1, v2, v3, v4⟩ := hN.cells PM.out
  obtain ⟨c0, c1, c2, c3⟩ := hS.cells PN.out PD.out
  have HS1 := hid hS
  have HR1 := hid hR
  have HN1 := hid hN
  have HBC := hid hBc
  clear hS hR hN hBc HOP HB1 HN0 HS HR HB HSZ
  go_wp2_with (go_at_call 150; refine (HOV.out _).mono ?_; rintro e w2 ⟨rfl, hb2⟩; refine Stop.of ?_)
  refine Stop.go ?_
  obtain ⟨u, hu⟩ := exq (w2.heap.size)
  obtain ⟨w3, hw3⟩ := exq ((w2.alloc (.cells #[.int .i64 q1, .int .u64 q2] 100)).alloc (.cells #[.int .i64 r1, .int .u64 r2] 100))
  have hb3 : Below wc.heap.size wc w3 := by rw [hw3]; exact (hb2.alloc hb2.size _).alloc (by have := hb2.size; simp; omega) _
  have hs3 : w3.heap.size = u + 2 := by rw [hw3, hu]; simp
  have Q3 : zBS w3 u (N / d) := by rw [hw3, hu]; exact (zBS.made w2 PQ.out).keep (Below.heap_alloc _ _ _ (by simp))
  have R3 : zBS w3 (u + 1) (N % d) := by
   have h := zBS.made (w2.alloc (.cells #[.int .i64 q1, .int .u64 q2] 100)) PR.out
   rw [World.size_alloc] at h
   rw [hw3, hu]; exact h
  have S3 := hid (HS1.out.keep (hb3.block _ HS1.out.lt))
  have T3 := hid ((hb3.block (s + 1) (by have := HN1.out.lt; omega)).trans HR1.out)
  have B3 := hid (zAA HBC.out hb3)
  have hsu : s + 2 < u := by have := HN1.out.lt; have := hb2.size; omega
  have HQ3 := hid Q3
  have HR3 := hid R3
  have HS3 := hid hs3
  have HSU := hid hsu
  clear hb3 hs3 Q3 R3 hsu v0 v1 v2 v3 v4 c0 c1 c2 c3 hb2 HOV
  go_upto_region 5 with fail
  rw [<- hu, <- hw3]
  clear hu hw3
  obtain ⟨g, a, b, hab, hg, hb, hNa, hdb, hcop⟩ := zEQ (n := N) HND.out.2.1
  have hN0 : 0 <= N := by have := HNE.out; omega
  have hq0 : 0 <= N / d := Int.ediv_nonneg hN0 (by have := HND.out.2.1; omega)
  have hqw : q1 = N / d / 18446744073709551616 ∧ q2 = N / d % 18446744073709551616 := PQ.out
  have hqN : N / d <= N := Int.ediv_le_self _ hN0
  -- the answer by the one without its sign
  have hval : zAM (zAY n d) = zAM (a, b) ∧ zAY n d = (if n < 0 then -a else a, b) := by
   have hd0 := HND.out.2.1
   by_cases h : n < 0
   ·have e : n = -N := by have := HNE.out; omega
    rw [e, low_neg hd0, hab, if_pos (by have := HNE.out; omega)]
    exact ⟨zNC, rfl⟩
   ·have e : n = N := by have := HNE.out; omega
    rw [e, hab, if_neg (by omega)]
    exact ⟨rfl, rfl⟩
  have HVAL := hid hval
  have HLOW := hid (And.intro hab (And.intro hg (And.intro hb (And.intro hNa (And.intro hdb hcop)))))
  obtain ⟨c0, c1, c2, c3, c4⟩ := HQ3.out.cells PQ.out
  have T4 : RatI w3 (s + 1) (0, 0) := T3.out
  have HT4 := hid T4
  by_cases hbig : 10000000000 < N / d
  ·have hno : zAM (a, b) = false := by rw [<- hab]; exact low_big hN0 HND.out.2.1 hbig
   have hcase : (q1 != 0) = true ∨ (q1 = 0 ∧ 10000000000 < q2) := by
    by_cases h : q1 = 0
    ·right; exact ⟨h, by omega⟩
    ·left; simpa using h
   have HNO := hid (hval.1.trans hno)
   have HCS := hid hcase
   clear hcase hno hval hab hg hb hNa hdb hcop hN0 hq0 hqw hqN hbig
   obtain ⟨t0, t1, t2, t3, t4⟩ := T4.cells
   clear T4
   have K := zBV w3 (s + 1) (.int .i64 0) (.int .i64 0)
   have X1 := hid (RatI.set (p := (0, 0)) HT4.out)
   have X2 := hid (K.below B3.out (by have := HSU.out; have := HS3.out; have := HSV.out; omega) (fun k hk => by have := HSV.out; show k ≠ s + 1; omega))
   clear K
   rcases HCS.out with h | ⟨h1, h2⟩
   all_goals
    first | subst h1 | skip
    go_wp2
    clear t0 t1 t2 t3 t4
    generalize (w3.setCell ⟨s + 1, 0, none⟩ (.int .i64 0)).setCell ⟨s + 1, 1, none⟩ (.int .i64 0) = WF at X1 X2 ⊢
    obtain ⟨t0, t1, t2, t3, t4⟩ := X1.out.cells
    refine bodyPost_ret (v := .tuple #[.agg #[.int .i64 0, .int .i64 0], .bool false]) ?_ rfl ⟨⟨(0, 0), by rw [HNO.out]; rfl, fun h => by rw [HNO.out] at h; cases h⟩, X2.out⟩
    simp [results, Tryz.results83, go_sem, t0, t1, t2, t3, t4]
  ·have hq1 : q1 = 0 := by omega
   have hq2 : q2 = N / d := by omega
   subst hq1
   have hq10 : ¬ 10000000000 < q2 := by omega
   have hq2' : 0 <= q2 ∧ q2 <= 10000000000 := by omega
   have HQ2 := hid hq2
   have hd0 := HND.out.2.1
   have hrd : 0 <= N % d ∧ N % d < d := ⟨Int.emod_nonneg _ (by omega), Int.emod_lt_of_pos _ hd0⟩
   have HRD := hid hrd
   have HB0 := hid hb
   have HSX := hid (show ∀ X : World, Below w3.heap.size w3 X -> X.cell? ⟨u + 1, 0, none⟩ = some (.int .i64 r1) ∧ X.cell? ⟨u + 1, 1, none⟩ = some (.int .u64 r2) ∧ X.cell? ⟨s, 2, none⟩ = some (.int .i64 d1) ∧ X.cell? ⟨s, 3, none⟩ = some (.int .u64 d2) from fun X hX => by
    obtain ⟨a0, a1, _⟩ := (HR3.out.keep (hX.block _ HR3.out.lt)).cells PR.out
    obtain ⟨b0, b1, b2, b3, _⟩ := (S3.out.keep (hX.block _ S3.out.lt)).cells PN.out PD.out
    exact ⟨a0, a1, b2, b3⟩)
   clear hval hab hg hb hNa hdb hcop hN0 hq0 hqw hqN hbig T4 hq2 hd0 hrd
   go_wp2
   clear c0 c1 c2 c3 c4
   go_loopw [7] (fun v wr => ∃ k : Nat, k <= 400 ∧ v = .int .i64 ((k : Int) + 1) ∧ (∀ j : Int, 1 <= j -> j <= k -> ¬ b ∣ j) ∧ Below w3.heap.size w3 wr) (fun v _ => 401 - (intOf v).toNat)
   case atStart => exact ⟨0, by omega, rfl, fun j h1 h2 => by omega, Below.refl _ _⟩
   case round =>
    obtain ⟨k, hk, rfl, hnd, hbk⟩ := hrel
    by_cases hlt : k < 400
    ·have HNDV := hid hnd
     have HBK := hid hbk
     have hRD := HRD.out
     have hNDd := HND.out.2
     obtain ⟨x1, x2, px⟩ := WP.ex (N % d * ((k : Int) + 1))
     obtain ⟨Y, hYe⟩ := exq (N % d * ((k : Int) + 1) / d)
     obtain ⟨Z, hZe⟩ := exq (N % d * ((k : Int) + 1) % d)
     obtain ⟨y1, y2, py⟩ := WP.ex Y
     obtain ⟨z1, z2, pz⟩ := WP.ex Z
     have hxb : 0 <= N % d * ((k : Int) + 1) ∧ N % d * ((k : Int) + 1) <= d * 400 := by
      refine ⟨Int.mul_nonneg (by omega) (by omega), ?_⟩
      exact Int.mul_le_mul (by omega) (by omega) (by omega) (by omega)
     have HTI := hid (show ∀ X : World, Calls Tryz.prog 151 #[.agg #[.int .i64 r1, .int .u64 r2], .int .i64 ((k : Int) + 1)] X fun e w' => e = .returned (.agg #[.int .i64 x1, .int .u64 x2]) ∧ Below X.heap.size X w' from fun X => by
      have := zIF X (N % d) ((k : Int) + 1) (by omega) (by omega) (by
       have e : (((N % d).natAbs * ((k : Int) + 1).natAbs : Nat) : Int) = N % d * ((k : Int) + 1) := by rw [Int.natCast_mul]; congr 1 <;> omega
       omega)
      rw [PR.out.val, px.val] at this; exact this)
     have HOV := hid (show ∀ X : World, Calls Tryz.prog 150 #[.agg #[.int .i64 x1, .int .u64 x2], .agg #[.int .i64 d1, .int .u64 d2]] X fun e w' => e = .returned (.tuple #[.agg #[.int .i64 y1, .int .u64 y2], .agg #[.int .i64 z1, .int .u64 z2]]) ∧ Below X.heap.size X w' from fun X => by
      have := zOE X (N % d * ((k : Int) + 1)) d (by omega) (by omega)
      rw [px.val, PD.out.val, <- hYe, <- hZe, py.val, pz.val] at this; exact this)
     have HYE := hid hYe
     have HZE := hid hZe
     have PX := hid px
     have PY := hid py
     have PZ := hid pz
     clear hnd hbk hRD hNDd hxb px py pz hYe hZe
     go_wp2
     refine zAG (fun _ _ => True) (by kernel_rfl) ?_
     obtain ⟨wd, hwd⟩ := exq (wr.drew)
     have hbd : Below wr.heap.size wr wd := by rw [hwd]; exact (Below.refl _ _).drew
     rw [<- hwd]
     have HBD := hid (zAA HBK.out hbd)
     have HWD := hid hwd
     clear hbd hwd
     refine zEI fun a0 ha0 => ?_
     have hsz : a0.tmps.size = 73 := by rw [ha0]; rfl
     have v6 : a0.eval (.tmp 6) = .pointer (some ⟨u + 1, 0, none⟩) := by rw [ha0]; rfl
     have v7 : a0.eval (.tmp 7) = .int .i64 ((k : Int) + 1) := by rw [ha0]; rfl
     have v1 : a0.eval (.tmp 1) = .pointer (some ⟨s, 0, none⟩) := by rw [ha0]; rfl
     have HA0 := hid ha0
     clear ha0
     refine AnyT.regF [8, 9, 38, 39, 40, 41, 42, 43, 44, 45, 46] (fun l f w => Below wd.heap.size wd w ∧ (l 0 = true -> f 39 = .agg #[.int .i64 r1, .int .u64 r2]) ∧ (l 1 = true -> f 40 = .int .i64 ((k : Int) + 1)) ∧ (l 2 = true -> f 41 = .agg #[.int .i64 x1, .int .u64 x2]) ∧ (l 3 = true -> f 42 = .pointer (some ⟨s, 2, none⟩)) ∧ (l 4 = true -> f 43 = .agg #[.int .i64 d1, .int .u64 d2]) ∧ (l 5 = true -> f 44 = .tuple #[.agg #[.int .i64 y1, .int .u64 y2], .agg #[.int .i64 z1, .int .u64 z2]]) ∧ (l 6 = true -> f 38 = .tuple #[.agg #[.int .i64 y1, .int .u64 y2], .agg #[.int .i64 z1, .int .u64 z2]]) ∧ (l 7 = true -> f 45 = .agg #[.int .i64 y1, .int .u64 y2]) ∧ (l 8 = true -> f 46 = .agg #[.int .i64 z1, .int .u64 z2]) ∧ (l 9 = true -> ∃ g, f 8 = .pointer (some ⟨g, 0, none⟩) ∧ wd.heap.size <= g ∧ (l 11 = false -> zBS w g 0) ∧ (l 11 = true -> zBS w g Y)) ∧ (l 10 = true -> ∃ g, f 9 = .pointer (some ⟨g, 0, none⟩) ∧ wd.heap.size <= g ∧ (l 12 = false -> zBS w g 0) ∧ (l 12 = true -> zBS w g Z)) ∧ (l 9 = true -> l 10 = true -> f 8 ≠ f 9) ∧ (l 11 = true -> l 9 = true) ∧ (l 12 = true -> l 10 = true)) (by kernel_rfl) (by kernel_rfl) ?_ ?_ ?_
     ·have eg1 : ∀ args w, (callFunc 151 args).run Tryz.prog w = .ok (.enter 151 args) w := enters_of Tryz.func151 (by kernel_rfl) rfl
      have eg2 : ∀ args w, (callFunc 150 args).run Tryz.prog w = .ok (.enter 150 args) w := enters_of Tryz.func150 (by kernel_rfl) rfl
      rintro l f w i o ho hi hd ⟨hb, h0, h1, h2, h3, h4, h5, h6, h7, h8, h9, h10, hne, hq11, hq12⟩
      have e39 : zAF a0 [8, 9, 38, 39, 40, 41, 42, 43, 44, 45, 46] f (.tmp 39) = f 39 := by simp [zAF, hsz]
      have e40 : zAF a0 [8, 9, 38, 39, 40, 41, 42, 43, 44, 45, 46] f (.tmp 40) = f 40 := by simp [zAF, hsz]
      have e41 : zAF a0 [8, 9, 38, 39, 40, 41, 42, 43, 44, 45, 46] f (.tmp 41) = f 41 := by simp [zAF, hsz]
      have e42 : zAF a0 [8, 9, 38, 39, 40, 41, 42, 43, 44, 45, 46] f (.tmp 42) = f 42 := by simp [zAF, hsz]
      have e43 : zAF a0 [8, 9, 38, 39, 40, 41, 42, 43, 44, 45, 46] f (.tmp 43) = f 43 := by simp [zAF, hsz]
      have e44 : zAF a0 [8, 9, 38, 39, 40, 41, 42, 43, 44, 45, 46] f (.tmp 44) = f 44 := by simp [zAF, hsz]
      have e38 : zAF a0 [8, 9, 38, 39, 40, 41, 42, 43, 44, 45, 46] f (.tmp 38) = f 38 := by simp [zAF, hsz]
      have e45 : zAF a0 [8, 9, 38, 39, 40, 41, 42, 43, 44, 45, 46] f (.tmp 45) = f 45 := by simp [zAF, hsz]
      have e46 : zAF a0 [8, 9, 38, 39, 40, 41, 42, 43, 44, 45, 46] f (.tmp 46) = f 46 := by simp [zAF, hsz]
      have e8 : zAF a0 [8, 9, 38, 39, 40, 41, 42, 43, 44, 45, 46] f (.tmp 8) = f 8 := by simp [zAF, hsz]
      have e9 : zAF a0 [8, 9, 38, 39, 40, 41, 42, 43, 44, 45, 46] f (.tmp 9) = f 9 := by simp [zAF, hsz]
      have eF1 : zAF a0 [8, 9, 38, 39, 40, 41, 42, 43, 44, 45, 46] f (.func 151) = .func (.func 151) #[] #[] := rfl
      have eF2 : zAF a0 [8, 9, 38, 39, 40, 41, 42, 43, 44, 45, 46] f (.func 150) = .func (.func 150) #[] #[] := rfl
      have w6 : zAF a0 [8, 9, 38, 39, 40, 41, 42, 43, 44, 45, 46] f (.tmp 6) = .pointer (some ⟨u + 1, 0, none⟩) := by simp [zAF, v6]
      have w7 : zAF a0 [8, 9, 38, 39, 40, 41, 42, 43, 44, 45, 46] f (.tmp 7) = .int .i64 ((k : Int) + 1) := by simp [zAF, v7]
      have w1' : zAF a0 [8, 9, 38, 39, 40, 41, 42, 43, 44, 45, 46] f (.tmp 1) = .pointer (some ⟨s, 0, none⟩) := by simp [zAF, v1]
      obtain ⟨o1, o2, o3, o4⟩ := HSX.out _ (zAA HBD.out hb)
      rcases i with _ | _ | _ | _ | _ | _ | _ | _ | _ | _ | _ | _ | _ | i
      ·replace ho := Option.some.inj ho
       subst ho
       refine zAU.val (w' := w) (v := .agg #[.int .i64 r1, .int .u64 r2]) rfl (by go_simp) ⟨hb, fun _ => rfl, h1, h2, h3, h4, h5, h6, h7, h8, h9, h10, hne, hq11, hq12⟩
      ·replace ho := Option.some.inj ho
       subst ho
       refine zAU.val (w' := w) (v := .int .i64 ((k : Int) + 1)) rfl (by go_simp) ⟨hb, h0, fun _ => rfl, h2, h3, h4, h5, h6, h7, h8, h9, h10, hne, hq11, hq12⟩
      ·replace ho := Option.some.inj ho
       subst ho
       have k0 := h0 (hd { on := 0, ground := .data } (by simp) (by kernel_rfl))
       rw [k0] at e39
       have k1 := h1 (hd { on := 1, ground := .data } (by simp) (by kernel_rfl))
       rw [k1] at e40
       refine zAU.call (g := 151) (args := #[.agg #[.int .i64 r1, .int .u64 r2], .int .i64 ((k : Int) + 1)]) (w' := w) rfl (by simp [execOp, resolve, invoke, go_sem, e39, e40, eF1, eg1]) ((HTI.out w).mono ?_)
       rintro e w4 ⟨rfl, hb4⟩
       exact ⟨_, rfl, zAA hb hb4, h0, h1, fun _ => rfl, h3, h4, h5, h6, h7, h8, fun h => by obtain ⟨g, g1, g2, g3, g4⟩ := h9 h; exact ⟨g, g1, g2, fun h => (g3 h).keep (hb4.block _ (g3 h).lt), fun h => (g4 h).keep (hb4.block _ (g4 h).lt)⟩, fun h => by obtain ⟨g, g1, g2, g3, g4⟩ := h10 h; exact ⟨g, g1, g2, fun h => (g3 h).keep (hb4.block _ (g3 h).lt), fun h => (g4 h).keep (hb4.block _ (g4 h).lt)⟩, hne, hq11, hq12⟩
      ·replace ho := Option.some.inj ho
       subst ho
       refine zAU.val (w' := w) (v := .pointer (some ⟨s, 2, none⟩)) rfl (by go_simp) ⟨hb, h0, h1, h2, fun _ => rfl, h4, h5, h6, h7, h8, h9, h10, hne, hq11, hq12⟩
      ·replace ho := Option.some.inj ho
       subst ho
       have k3 := h3 (hd { on := 3, ground := .data } (by simp) (by kernel_rfl))
       rw [k3] at e42
       refine zAU.val (w' := w) (v := .agg #[.int .i64 d1, .int .u64 d2]) rfl (by go_simp) ⟨hb, h0, h1, h2, h3, fun _ => rfl, h5, h6, h7, h8, h9, h10, hne, hq11, hq12⟩
      ·replace ho := Option.some.inj ho
       subst ho
       have k2 := h2 (hd { on := 2, ground := .data } (by simp) (by kernel_rfl))
       rw [k2] at e41
       have k4 := h4 (hd { on := 4, ground := .data } (by simp) (by kernel_rfl))
       rw [k4] at e43
       refine zAU.call (g := 150) (args := #[.agg #[.int .i64 x1, .int .u64 x2], .agg #[.int .i64 d1, .int .u64 d2]]) (w' := w) rfl (by simp [execOp, resolve, invoke, go_sem, e41, e43, eF2, eg2]) ((HOV.out w).mono ?_)
       rintro e w4 ⟨rfl, hb4⟩
       exact ⟨_, rfl, zAA hb hb4, h0, h1, h2, h3, h4, fun _ => rfl, h6, h7, h8, fun h => by obtain ⟨g, g1, g2, g3, g4⟩ := h9 h; exact ⟨g, g1, g2, fun h => (g3 h).keep (hb4.block _ (g3 h).lt), fun h => (g4 h).keep (hb4.block _ (g4 h).lt)⟩, fun h => by obtain ⟨g, g1, g2, g3, g4⟩ := h10 h; exact ⟨g, g1, g2, fun h => (g3 h).keep (hb4.block _ (g3 h).lt), fun h => (g4 h).keep (hb4.block _ (g4 h).lt)⟩, hne, hq11, hq12⟩
      ·replace ho := Option.some.inj ho
       subst ho
       have k5 := h5 (hd { on := 5, ground := .data } (by simp) (by kernel_rfl))
       rw [k5] at e44
       refine zAU.val (w' := w) (v := .tuple #[.agg #[.int .i64 y1, .int .u64 y2], .agg #[.int .i64 z1, .int .u64 z2]]) rfl (by go_simp) ⟨hb, h0, h1, h2, h3, h4, h5, fun _ => rfl, h7, h8, h9, h10, hne, hq11, hq12⟩
      ·replace ho := Option.some.inj ho
       subst ho
       have k6 := h6 (hd { on := 6, ground := .data } (by simp) (by kernel_rfl))
       rw [k6] at e38
       refine zAU.val (w' := w) (v := .agg #[.int .i64 y1, .int .u64 y2]) rfl (by go_simp) ⟨hb, h0, h1, h2, h3, h4, h5, h6, fun _ => rfl, h8, h9, h10, hne, hq11, hq12⟩
      ·replace ho := Option.some.inj ho
       subst ho
       have k6 := h6 (hd { on := 6, ground := .data } (by simp) (by kernel_rfl))
       rw [k6] at e38
       refine zAU.val (w' := w) (v := .agg #[.int .i64 z1, .int .u64 z2]) rfl (by go_simp) ⟨hb, h0, h1, h2, h3, h4, h5, h6, h7, fun _ => rfl, h9, h10, hne, hq11, hq12⟩
      ·replace ho := Option.some.inj ho
       subst ho
       have hbn : Below wd.heap.size wd (w.alloc (.cells #[.int .i64 0, .int .u64 0] 100)) := hb.alloc hb.size _
       refine zAU.val (w' := w.alloc (.cells #[.int .i64 0, .int .u64 0] 100)) (v := .pointer (some ⟨w.heap.size, 0, none⟩)) rfl (by go_simp) ⟨hbn, h0, h1, h2, h3, h4, h5, h6, h7, h8, ?_, ?_, ?_⟩
       ·intro _; exact ⟨w.heap.size, rfl, hb.size, fun _ => zBS.made0 w, fun h => absurd (hq11 h) (by rw [hi]; decide)⟩
       ·intro h; obtain ⟨g, g1, g2, g3, g4⟩ := h10 h; exact ⟨g, g1, g2, fun h => (g3 h).keep (Below.heap_alloc _ _ _ (g3 h).lt), fun h => (g4 h).keep (Below.heap_alloc _ _ _ (g4 h).lt)⟩
       ·refine ⟨?_, fun _ => rfl, hq12⟩
        intro _ h e
        obtain ⟨g, g1, _, g3, g4⟩ := h10 h
        have hgl : g < w.heap.size := by
         rcases Bool.eq_false_or_eq_true (l 12) with c | c
         ·exact (g4 c).lt
         ·exact (g3 c).lt
        have e' : (Value.pointer (some ⟨w.heap.size, 0, none⟩)) = f 9 := e
        rw [g1] at e'; cases e'; omega
      ·replace ho := Option.some.inj ho
       subst ho
       have hbn : Below wd.heap.size wd (w.alloc (.cells #[.int .i64 0, .int .u64 0] 100)) := hb.alloc hb.size _
       refine zAU.val (w' := w.alloc (.cells #[.int .i64 0, .int .u64 0] 100)) (v := .pointer (some ⟨w.heap.size, 0, none⟩)) rfl (by go_simp) ⟨hbn, h0, h1, h2, h3, h4, h5, h6, h7, h8, ?_, ?_, ?_⟩
       ·intro h; obtain ⟨g, g1, g2, g3, g4⟩ := h9 h; exact ⟨g, g1, g2, fun h => (g3 h).keep (Below.heap_alloc _ _ _ (g3 h).lt), fun h => (g4 h).keep (Below.heap_alloc _ _ _ (g4 h).lt)⟩
       ·intro _; exact ⟨w.heap.size, rfl, hb.size, fun _ => zBS.made0 w, fun h => absurd (hq12 h) (by rw [hi]; decide)⟩
       ·refine ⟨?_, hq11, fun _ => rfl⟩
        intro h _ e
        obtain ⟨g, g1, _, g3, g4⟩ := h9 h
        have hgl : g < w.heap.size := by
         rcases Bool.eq_false_or_eq_true (l 11) with c | c
         ·exact (g4 c).lt
         ·exact (g3 c).lt
        have e' : f 8 = (Value.pointer (some ⟨w.heap.size, 0, none⟩)) := e
        rw [g1] at e'; cases e'; omega
      ·replace ho := Option.some.inj ho
       subst ho
       have l9 : l 9 = true := hd { on := 9, ground := .data } (by simp) (by kernel_rfl)
       have l10 : l 10 = true := hd { on := 10, ground := .phase } (by simp) (by kernel_rfl)
       have k7 := h7 (hd { on := 7, ground := .data } (by simp) (by kernel_rfl))
       rw [k7] at e45
       obtain ⟨g, g1, g2, g3, g4⟩ := h9 l9
       obtain ⟨q, q1, q2, q3, q4⟩ := h10 l10
       rw [g1] at e8
       have hnq : q ≠ g := by rintro rfl; exact hne l9 l10 (by rw [g1, q1])
       obtain ⟨c0, c1, c2, c3, c4⟩ := (g3 hi).cells WP.zero
       have K := zBV w g (.int .i64 y1) (.int .u64 y2)
       have hbn := K.below hb hb.size (fun k hk => by show k ≠ g; omega)
       refine zAU.skip (w' := (w.setCell ⟨g, 0, none⟩ (.int .i64 y1)).setCell ⟨g, 1, none⟩ (.int .u64 y2)) rfl (by go_simp) ⟨hbn, h0, h1, h2, h3, h4, h5, h6, h7, h8, ?_, ?_, ?_⟩
       ·intro _; exact ⟨g, g1, g2, (fun h => by cases h), fun _ => (g3 hi).set PY.out⟩
       ·intro _; exact ⟨q, q1, q2, fun h => (q3 h).keep (K.block _ (q3 h).lt hnq), fun h => (q4 h).keep (K.block _ (q4 h).lt hnq)⟩
       ·exact ⟨hne, fun _ => l9, hq12⟩
      ·replace ho := Option.some.inj ho
       subst ho
       have l9 : l 9 = true := hd { on := 9, ground := .phase } (by simp) (by kernel_rfl)
       have l10 : l 10 = true := hd { on := 10, ground := .data } (by simp) (by kernel_rfl)
       have k8 := h8 (hd { on := 8, ground := .data } (by simp) (by kernel_rfl))
       rw [k8] at e46
       obtain ⟨g, g1, g2, g3, g4⟩ := h10 l10
       obtain ⟨q, q1, q2, q3, q4⟩ := h9 l9
       rw [g1] at e9
       have hnq : q ≠ g := by rintro rfl; exact hne l9 l10 (by rw [q1, g1])
       obtain ⟨c0, c1, c2, c3, c4⟩ := (g3 hi).cells WP.zero
       have K := zBV w g (.int .i64 z1) (.int .u64 z2)
       have hbn := K.below hb hb.size (fun k hk => by show k ≠ g; omega)
       refine zAU.skip (w' := (w.setCell ⟨g, 0, none⟩ (.int .i64 z1)).setCell ⟨g, 1, none⟩ (.int .u64 z2)) rfl (by go_simp) ⟨hbn, h0, h1, h2, h3, h4, h5, h6, h7, h8, ?_, ?_, ?_⟩
       ·intro _; exact ⟨q, q1, q2, fun h => (q3 h).keep (K.block _ (q3 h).lt hnq), fun h => (q4 h).keep (K.block _ (q4 h).lt hnq)⟩
       ·intro _; exact ⟨g, g1, g2, (fun h => by cases h), fun _ => (g3 hi).set PZ.out⟩
       ·exact ⟨hne, hq11, fun _ => l10⟩
      ·exact absurd ho (by simp)
     ·rintro l f wv hall ⟨hb, h0, h1, h2, h3, h4, h5, h6, h7, h8, h9, h10, hne, hq11, hq12⟩
      obtain ⟨gy, g1, g2, _, g4⟩ := h9 (hall 9 (by decide))
      obtain ⟨gr, k1, k2, _, k4⟩ := h10 (hall 10 (by decide))
      have HGY := hid (g4 (hall 11 (by decide)))
      have HRZ := hid (k4 (hall 12 (by decide)))
      have HBW := hid (zAA HBD.out hb)
      clear h0 h1 h2 h3 h4 h5 h6 h7 h8 h9 h10 hne hq11 hq12 hall hb g2 k2 g4 k4
      rw [HA0.out]
      simp only [zDF, List.foldl_cons, List.foldl_nil, Act.put, List.setIfInBounds_toArray, List.set_cons_succ, List.set_cons_zero]
      rw [g1, k1]
      generalize f 38 = z38, f 39 = z39, f 40 = z40, f 41 = z41, f 42 = z42, f 43 = z43, f 44 = z44, f 45 = z45, f 46 = z46
      clear g1 k1 hsz v6 v7 v1 HA0
      obtain ⟨hab, hg, hb, hNa, hdb, hcop⟩ := HLOW.out
      have hd0 := HND.out.2.1
      have hdd := HND.out.2.2
      have hrd := HRD.out
      have hxb : 0 <= N % d * ((k : Int) + 1) ∧ N % d * ((k : Int) + 1) <= d * 400 := ⟨Int.mul_nonneg (by omega) (by omega), Int.mul_le_mul (by omega) (by omega) (by omega) (by omega)⟩
      have hYb : 0 <= Y ∧ Y <= 400 := by
       rw [HYE.out]
       refine ⟨Int.ediv_nonneg hxb.1 (by omega), ?_⟩
       exact Int.ediv_le_of_le_mul hd0 (by have h := hxb.2; rw [Int.mul_comm d] at h; exact h)
      have hZb : 0 <= Z ∧ Z < d := by rw [HZE.out]; exact ⟨Int.emod_nonneg _ (by omega), Int.emod_lt_of_pos _ hd0⟩
      have HSZ := hid (show ∀ X : World, Calls Tryz.prog 148 #[.agg #[.int .i64 z1, .int .u64 z2]] X fun e w' => e = .returned (.int .i64 (cmpI Z 0)) ∧ Below X.heap.size X w' from fun X => by
       have := zJM X Z (by omega)
       rw [PZ.out.val] at this; exact this)
      have hldv := low_div hd0 hg hb hNa hdb hcop ((k : Int) + 1)
      rw [<- HZE.out] at hldv
      by_cases hZ : Z = 0
      ·have hdv := hldv.1 hZ
       have hbe : b = (k : Int) + 1 := by
        have h1 := Int.le_of_dvd (by omega) hdv
        rcases Int.lt_or_le b ((k : Int) + 1) with h | h
        ·exact absurd (Int.dvd_refl b) (HNDV.out b (by omega) (by omega))
        ·omega
       have hav := low_val (n := N) (by have := HNE.out; omega) hd0 hg hNa hdb
       rw [hbe, <- HYE.out, <- HQ2.out] at hav
       have ha0 := low_nonneg (n := N) (d := d) (b := b) (by have := HNE.out; omega) hg hNa
       have hc0 : cmpI Z 0 = 0 := by rw [hZ]; rfl
       rw [hc0] at HSZ
       have hmul : 0 <= q2 * ((k : Int) + 1) ∧ q2 * ((k : Int) + 1) <= 10000000000 * 400 := ⟨Int.mul_nonneg (by omega) (by omega), Int.mul_le_mul (by omega) (by omega) (by omega) (by omega)⟩
       have hy1 : y1 = 0 := by have h : y1 = Y / 18446744073709551616 := PY.out.1; omega
       have hy2 : y2 = Y := by have h : y2 = Y % 18446744073709551616 := PY.out.2; omega
       subst hy1
       subst hy2
       have HOF := hid (show ∀ X : World, Calls Tryz.prog 152 #[.int .i64 (q2 * ((k : Int) + 1) + y2), .int .i64 ((k : Int) + 1)] X fun e w' => e = .returned (.agg #[.int .i64 a, .int .i64 b]) ∧ Below X.heap.size X w' from fun X => by
        have h := of_c X a b (by omega) (by omega) (by omega)
        have e : ofF a b = (a, b) := by
         unfold ofF
         rw [hcop]; simp; omega
        rw [e] at h
        rw [hav, <- hbe]; exact h)
       have hyb2 : 0 <= y2 ∧ y2 <= 400 := hYb
       have HAB := hid (And.intro ha0 (show a <= 9000000000000 by omega))
       clear hab hg hb hNa hdb hcop hxb hYb hZb hldv hdv hbe hav ha0 hc0 hZ hd0 hdd hrd
       obtain ⟨c0, c1, c2, c3, c4⟩ := HRZ.out.cells PZ.out
       go_wp2_with (go_at_call 148; refine (HSZ.out _).mono ?_; rintro e w5 ⟨rfl, hb5⟩; refine Stop.of ?_)
       refine Stop.go ?_
       have HB5 := hid (zAA HBW.out hb5)
       have hG5 := HGY.out.keep (hb5.block _ HGY.out.lt)
       clear hb5 c0 c1 c2 c3 c4
       obtain ⟨c0, c1, c2, c3, c4⟩ := hG5.cells PY.out
       obtain ⟨e0, e1, e2, e3, e4⟩ := (HQ3.out.keep (HB5.out.block _ HQ3.out.lt)).cells PQ.out
       clear hG5
       go_wp2_with (go_at_call 152; refine (HOF.out _).mono ?_; rintro e w6 ⟨rfl, hb6⟩; refine Stop.of ?_)
       refine Stop.go ?_
       have HB6 := hid (zAA HB5.out hb6)
       clear hb6 c0 c1 c2 c3 c4 e0 e1 e2 e3 e4
       obtain ⟨p, hp⟩ := exq (w6.heap.size)
       obtain ⟨w7, hw7⟩ := exq (w6.alloc (.cells #[.int .i64 a, .int .i64 b] 29))
       have P7 : RatI w7 p (a, b) := by rw [hw7, hp]; exact RatI.made w6 (a, b)
       have HP7 := hid P7
       have HB7 := hid (show Below w3.heap.size w3 w7 by rw [hw7]; exact HB6.out.alloc HB6.out.size _)
       have HPS := hid (show p ≠ s + 1 by have := HB6.out.size; have := HSU.out; have := HS3.out; omega)
       have HPB := hid (show w3.heap.size <= p by rw [hp]; exact HB6.out.size)
       have HW7 := hid hw7
       have HPE := hid hp
       clear P7 hp hw7
       go_upto_region 13 with fail
       rw [<- HPE.out, <- HW7.out]
       obtain ⟨b0, b1, b2, b3, _⟩ := (S3.out.keep (HB7.out.block _ S3.out.lt)).cells PN.out PD.out
       go_wp2_with (go_at_call 148; refine (HSG.out _).mono ?_; rintro e w8 ⟨rfl, hb8⟩; refine Stop.of ?_)
       refine Stop.go ?_
       have HP8 := hid (HP7.out.keep (hb8.block _ HP7.out.lt))
       have HB8 := hid (zAA HB7.out hb8)
       clear hb8 b0 b1 b2 b3
       obtain ⟨p0, p1, p2, p3, p4⟩ := HP8.out.cells
       rcases HSG2.out with ⟨hneg, hsn⟩ | ⟨hneg, hsn, _⟩
       ·have HNEG := hid hneg
        have hA1 := HAB.out.1
        have hA2 := HAB.out.2
        clear hneg
        obtain ⟨w9, hw9⟩ := exq (w8.setCell ⟨p, 0, none⟩ (.int .i64 (-a)))
        have HP9 := hid (show RatI w9 p (-a, b) by
         have h := zAR HP8.out 0 (.int .i64 (-a))
         rw [hw9]; exact h)
        have HT9 := hid (show RatI w9 (s + 1) (0, 0) by
         have h1 := HT4.out.keep (HB8.out.block _ HT4.out.lt)
         rw [hw9]; exact h1.keep ((Keep.set w8 p 0 _).block _ h1.lt (fun e => HPS.out e.symm)))
        have HB9 := hid (show Below w.heap.size w w9 by
         rw [hw9]
         exact (Keep.set w8 p 0 _).below (zAA B3.out HB8.out) (by have := B3.out.size; have := HB8.out.size; omega) (fun k hk => by have := HPB.out; have := B3.out.size; omega))
        have HW9 := hid hw9
        clear hw9
        go_upto_region 15 with fail
        rw [<- HW9.out]
        clear p0 p1 p2 p3 p4 hsn hA1 hA2
        refine zAG (fun j X => wAll j = true -> X.cell? ⟨p, 0, none⟩ = some (.int .i64 (-a)) ∧ X.cell? ⟨p, 1, none⟩ = some (.int .i64 b)) (by kernel_rfl) ?_
        have hbe : Below w9.heap.size w9 w9.drew := (Below.refl _ _).drew
        generalize w9.drew = we at hbe ⊢
        have HTT := hid (fun (X : World) (hX : Below w9.heap.size w9 X) => show X.cell? ⟨p, 0, none⟩ = some (.int .i64 (-a)) ∧ X.cell? ⟨p, 1, none⟩ = some (.int .i64 b) from by
         obtain ⟨c0, c1, _⟩ := (HP9.out.keep (hX.block _ HP9.out.lt)).cells
         exact ⟨c0, c1⟩)
        have HBE := hid hbe
        clear hbe
        refine AnyT.tD (i := 0) (v := .agg #[.int .i64 (-a), .int .i64 b]) rfl rfl (by rintro w' ⟨q0, q1⟩; go_simp) (HTT.out _ HBE.out) ?_; go_frame
        refine AnyT.tD (i := 1) (v := .agg #[.int .i64 (-a), .int .i64 b]) rfl rfl (by rintro w' ⟨q0, q1⟩; go_simp) (HTT.out _ HBE.out) ?_; go_frame
        refine AnyT.nx (i := 2) rfl ?_
        go_wp2_with (go_at_call 147; refine (zLD _ (-a) b).mono ?_; rintro e w10 ⟨rfl, hb10⟩; refine Stop.of ?_)
        refine Stop.go ?_
        have HB10 := hid (zAA HBE.out hb10)
        clear hb10
        go_wp2
        refine ⟨fun _ => HTT.out _ HB10.out, ?_⟩
        have hT10 := HT9.out.keep (HB10.out.block _ HT9.out.lt)
        obtain ⟨t0, t1, t2, t3, t4⟩ := hT10.cells
        have K10 := zBV w10 (s + 1) (.int .i64 (-a)) (.int .i64 b)
        have X1 := hid (RatI.set (p := ((-a), b)) hT10)
        have X2 := hid (K10.below (zAA HB9.out HB10.out) (by have := HB9.out.size; have := HB10.out.size; omega) (fun k hk => by have := HSV.out; show k ≠ s + 1; omega))
        have X3 := hid (show RatI _ p ((-a), b) from (HP9.out.keep (HB10.out.block _ HP9.out.lt)).keep (K10.block _ (by have := HP9.out.lt; have := HB10.out.size; omega) HPS.out))
        clear hT10 K10
        refine AnyT.nx (i := 3) rfl ?_
        go_wp2
        clear t0 t1 t2 t3 t4
        generalize (w10.setCell ⟨s + 1, 0, none⟩ (.int .i64 (-a))).setCell ⟨s + 1, 1, none⟩ (.int .i64 b) = WF at X1 X2 X3 ⊢
        refine ⟨fun _ => by obtain ⟨c0, c1, _⟩ := X3.out.cells; exact ⟨c0, c1⟩, ?_⟩
        refine AnyT.nx (i := 4) rfl ?_
        go_wp2
        refine ⟨fun _ => by obtain ⟨c0, c1, _⟩ := X3.out.cells; exact ⟨c0, c1⟩, ?_⟩
        refine AnyT.done (by kernel_rfl) ?_ _
        go_wp2
        obtain ⟨t0, t1, t2, t3, t4⟩ := X1.out.cells
        refine bodyPost_ret (v := .tuple #[.agg #[.int .i64 (-a), .int .i64 b], .bool (zAM ((-a), b))]) ?_ rfl ⟨⟨((-a), b), by rw [HVAL.out.1, zNC]; rfl, fun _ => by rw [HVAL.out.2, if_pos HNEG.out]⟩, X2.out⟩
        simp [results, Tryz.results83, go_sem, t0, t1, t2, t3, t4]
       ·have HNEG := hid hneg
        clear hneg
        obtain ⟨w9, hw9⟩ := exq (w8)
        have HP9 := hid (show RatI w9 p (a, b) by rw [hw9]; exact HP8.out)
        have HT9 := hid (show RatI w9 (s + 1) (0, 0) by rw [hw9]; exact HT4.out.keep (HB8.out.block _ HT4.out.lt))
        have HB9 := hid (show Below w.heap.size w w9 by rw [hw9]; exact zAA B3.out HB8.out)
        have HW9 := hid hw9
        clear hw9
        go_upto_region 15 with fail
        rw [<- HW9.out]
        clear p0 p1 p2 p3 p4 hsn
        refine zAG (fun j X => wAll j = true -> X.cell? ⟨p, 0, none⟩ = some (.int .i64 (a)) ∧ X.cell? ⟨p, 1, none⟩ = some (.int .i64 b)) (by kernel_rfl) ?_
        have hbe : Below w9.heap.size w9 w9.drew := (Below.refl _ _).drew
        generalize w9.drew = we at hbe ⊢
        have HTT := hid (fun (X : World) (hX : Below w9.heap.size w9 X) => show X.cell? ⟨p, 0, none⟩ = some (.int .i64 (a)) ∧ X.cell? ⟨p, 1, none⟩ = some (.int .i64 b) from by
         obtain ⟨c0, c1, _⟩ := (HP9.out.keep (hX.block _ HP9.out.lt)).cells
         exact ⟨c0, c1⟩)
        have HBE := hid hbe
        clear hbe
        refine AnyT.tD (i := 0) (v := .agg #[.int .i64 (a), .int .i64 b]) rfl rfl (by rintro w' ⟨q0, q1⟩; go_simp) (HTT.out _ HBE.out) ?_; go_frame
        refine AnyT.tD (i := 1) (v := .agg #[.int .i64 (a), .int .i64 b]) rfl rfl (by rintro w' ⟨q0, q1⟩; go_simp) (HTT.out _ HBE.out) ?_; go_frame
        refine AnyT.nx (i := 2) rfl ?_
        go_wp2_with (go_at_call 147; refine (zLD _ (a) b).mono ?_; rintro e w10 ⟨rfl, hb10⟩; refine Stop.of ?_)
        refine Stop.go ?_
        have HB10 := hid (zAA HBE.out hb10)
        clear hb10
        go_wp2
        refine ⟨fun _ => HTT.out _ HB10.out, ?_⟩
        have hT10 := HT9.out.keep (HB10.out.block _ HT9.out.lt)
        obtain ⟨t0, t1, t2, t3, t4⟩ := hT10.cells
        have K10 := zBV w10 (s + 1) (.int .i64 (a)) (.int .i64 b)
        have X1 := hid (RatI.set (p := ((a), b)) hT10)
        have X2 := hid (K10.below (zAA HB9.out HB10.out) (by have := HB9.out.size; have := HB10.out.size; omega) (fun k hk => by have := HSV.out; show k ≠ s + 1; omega))
        have X3 := hid (show RatI _ p ((a), b) from (HP9.out.keep (HB10.out.block _ HP9.out.lt)).keep (K10.block _ (by have := HP9.out.lt; have := HB10.out.size; omega) HPS.out))
        clear hT10 K10
        refine AnyT.nx (i := 3) rfl ?_
        go_wp2
        clear t0 t1 t2 t3 t4
        generalize (w10.setCell ⟨s + 1, 0, none⟩ (.int .i64 (a))).setCell ⟨s + 1, 1, none⟩ (.int .i64 b) = WF at X1 X2 X3 ⊢
        refine ⟨fun _ => by obtain ⟨c0, c1, _⟩ := X3.out.cells; exact ⟨c0, c1⟩, ?_⟩
        refine AnyT.nx (i := 4) rfl ?_
        go_wp2
        refine ⟨fun _ => by obtain ⟨c0, c1, _⟩ := X3.out.cells; exact ⟨c0, c1⟩, ?_⟩
        refine AnyT.done (by kernel_rfl) ?_ _
        go_wp2
        obtain ⟨t0, t1, t2, t3, t4⟩ := X1.out.cells
        refine bodyPost_ret (v := .tuple #[.agg #[.int .i64 (a), .int .i64 b], .bool (zAM ((a), b))]) ?_ rfl ⟨⟨((a), b), by rw [HVAL.out.1]; rfl, fun _ => by rw [HVAL.out.2, if_neg (show ¬ n < 0 by have := HNEG.out; omega)]⟩, X2.out⟩
        simp [results, Tryz.results83, go_sem, t0, t1, t2, t3, t4]
      ·have hc0 : (cmpI Z 0 != 0) = true := by unfold cmpI; split <;> (try split) <;> simp <;> omega
       have HND2 := hid (show ∀ j : Int, 1 <= j -> j <= ((k + 1 : Nat) : Int) -> ¬ b ∣ j from fun j h1 h2 => by
        rcases Int.lt_or_le (k : Int) j with h | h
        ·have : j = (k : Int) + 1 := by omega
         rw [this]; exact fun h => hZ (hldv.2 h)
        ·exact HNDV.out j h1 h)
       obtain ⟨C, hC⟩ := exq (cmpI Z 0)
       rw [<- hC] at HSZ hc0
       clear hab hg hb hNa hdb hcop hxb hYb hZb hldv hZ hC hd0 hdd hrd
       obtain ⟨c0, c1, c2, c3, c4⟩ := HRZ.out.cells PZ.out
       go_wp2_with (go_at_call 148; refine (HSZ.out _).mono ?_; rintro e w5 ⟨rfl, hb5⟩; refine Stop.of ?_)
       refine Stop.go ?_
       have HB5 := hid (zAA HBW.out hb5)
       clear hb5 c0 c1 c2 c3 c4
       go_wp2
       refine ⟨⟨k + 1, by omega, by go_num, HND2.out, HB5.out⟩, by simp [intOf]; omega⟩
     ·intro l f hl
      refine ⟨Below.refl _ _, ?_⟩
      refine ⟨fun h => ?_, fun h => ?_, fun h => ?_, fun h => ?_, fun h => ?_, fun h => ?_, fun h => ?_, fun h => ?_, fun h => ?_, fun h => ?_, fun h => ?_, fun h => ?_, fun h => ?_, fun h => ?_⟩ <;> (rw [hl _ (by decide)] at h; cases h)
    ·have hk4 : k = 400 := by omega
     subst hk4
     have HNO := hid (show zAM (zAY n d) = false by
      rw [HVAL.out.1]
      cases hv : zAM (a, b) with
      | false => rfl
      | true =>
        have h := zBG.1 hv
        exact absurd (Int.dvd_refl b) (hnd b (by have := h.1; simpa using this) (by have := h.2.1; simpa using this)))
     have HBK := hid hbk
     have HTB := hid (HT4.out.keep (hbk.block _ HT4.out.lt))
     obtain ⟨t0, t1, t2, t3, t4⟩ := HTB.out.cells
     have K := zBV wr (s + 1) (.int .i64 0) (.int .i64 0)
     have X1 := hid (RatI.set (p := (0, 0)) HTB.out)
     have X2 := hid (K.below (zAA B3.out hbk) (by have := B3.out.size; have := hbk.size; omega) (fun k hk => by have := HSV.out; show k ≠ s + 1; omega))
     clear K hnd hbk
     go_wp2
     clear t0 t1 t2 t3 t4
     generalize (wr.setCell ⟨s + 1, 0, none⟩ (.int .i64 0)).setCell ⟨s + 1, 1, none⟩ (.int .i64 0) = WF at X1 X2 ⊢
     obtain ⟨t0, t1, t2, t3, t4⟩ := X1.out.cells
     refine bodyPost_ret (v := .tuple #[.agg #[.int .i64 0, .int .i64 0], .bool false]) ?_ rfl ⟨⟨(0, 0), by rw [HNO.out]; rfl, fun h => by rw [HNO.out] at h; cases h⟩, X2.out⟩
     simp [results, Tryz.results83, go_sem, t0, t1, t2, t3, t4]
end
section
theorem sumR_sol {r : List Int} {x : List Rt} {l : Nat -> Int} {D : Int} (hD : 0 < D) (hp : ∀ k, 0 < (zAE x k).2) : ∀ t, (∀ k, k < t -> (zAE x k).1 * D = l k * (zAE x k).2) -> (sumR r x t).1 * D = (sumR r x t).2 * sm (fun k => vec r k * l k) t ∧ 0 < (sumR r x t).2
 | 0, _ => ⟨by simp [sumR, sm], by simp [sumR]⟩
 | t + 1, h => by
   obtain ⟨ih, ip⟩ := sumR_sol (r := r) hD hp t (fun k hk => h k (by omega))
   have ht := h t (by omega)
   have hpt := hp t
   have e : sumR r x (t + 1) = if vec r t ≠ 0 then ((sumR r x t).1 * (zAE x t).2 + (sumR r x t).2 * ((zAE x t).1 * vec r t), (sumR r x t).2 * (zAE x t).2) else sumR r x t := rfl
   have e2 : sm (fun k => vec r k * l k) (t + 1) = sm (fun k => vec r k * l k) t + vec r t * l t := rfl
   rw [e, e2]
   obtain ⟨⟨a, b⟩, h1⟩ : ∃ q, q = sumR r x t := ⟨_, rfl⟩
   obtain ⟨⟨n, d⟩, h2⟩ : ∃ q, q = zAE x t := ⟨_, rfl⟩
   obtain ⟨S, hS⟩ := exq (sm (fun k => vec r k * l k) t)
   obtain ⟨v, hv⟩ := exq (vec r t)
   rw [<- h1, <- hS] at ih
   rw [<- h1] at ip
   rw [<- h2] at ht hpt
   rw [<- h1, <- h2, <- hS, <- hv]
   simp only [] at ih ip ht hpt ⊢
   split
   ·refine ⟨?_, Int.mul_pos ip hpt⟩
    show (a * d + b * (n * v)) * D = b * d * (S + v * l t)
    have e3 : (a * d + b * (n * v)) * D = a * D * d + b * v * (n * D) := by grind
    rw [e3, ih, ht]; grind
   ·rename_i h0
    have h0' : v = 0 := Classical.not_not.1 h0
    subst h0'
    refine ⟨?_, ip⟩
    rw [Int.zero_mul, Int.add_zero]; exact ih
theorem zPL {x : List Rt} (h : x.all zAM = true) : ∀ k, 0 < (zAE x k).2 := fun k => by
 unfold zAE
 cases e : x[k]? with
 | none => decide
 | some r =>
   have := List.all_eq_true.1 h r (List.mem_of_getElem? e)
   rw [zBG] at this
   simp only [Option.getD_some]; omega
theorem makes_iff {M : Mask} {x : List Rt} {y : List Int} (h0 : rdE M y = 0) (hl : x.length = zAB M) (hv : x.all zAM = true) {l : Nat -> Int} {D : Int} (hD : 0 < D) (h : ∀ k, k < zAB M -> (zAE x k).1 * D = l k * (zAE x k).2) : zDK M x y = true ↔ SolM M (zAB M) y l D := by
 have hp := zPL hv
 have key := fun (i : Nat) => sumR_sol (r := M[i]?.getD []) hD hp (zAB M) h
 constructor
 ·intro hm
  unfold zDK at hm
  simp only [Bool.and_eq_true, decide_eq_true_eq] at hm
  refine ⟨hD, fun q hq => ?_⟩
  obtain ⟨k1, k2⟩ := key q
  have k3 := hm.2.2.2 q hq
  rw [k3] at k1
  have e : (sumR (M[q]?.getD []) x (zAB M)).2 * sm (fun k => vec (M[q]?.getD []) k * l k) (zAB M) = (sumR (M[q]?.getD []) x (zAB M)).2 * (vec y q * D) := by rw [<- k1]; grind
  exact Int.eq_of_mul_eq_mul_left (by omega) e
 ·intro hs
  refine mk_yes h0 hl hv fun i hi => ?_
  obtain ⟨k1, k2⟩ := key i
  have e := hs.2 i hi
  have e' : sm (fun k => vec (M[i]?.getD []) k * l k) (zAB M) = vec y i * D := e
  rw [e'] at k1
  have k3 : (sumR (M[i]?.getD []) x (zAB M)).1 * D = (sumR (M[i]?.getD []) x (zAB M)).2 * vec y i * D := by rw [k1]; grind
  exact Int.eq_of_mul_eq_mul_right (by omega) k3
end
section
def pw : Nat -> Int
 | 0 => 1
 | k + 1 => 1000000000 * pw k
theorem zKK : ∀ k, 0 < pw k
 | 0 => by decide
 | k + 1 => by have := zKK k; rw [pw]; omega
theorem pw_add (a : Nat) : ∀ b, pw (a + b) = pw a * pw b
 | 0 => by rw [Nat.add_zero, pw]; simp
 | b + 1 => by rw [<- Nat.add_assoc, pw, pw, pw_add a b]; grind
theorem pw_mono {a b : Nat} (h : a <= b) : pw a <= pw b := by
 obtain ⟨c, rfl⟩ := Nat.exists_eq_add_of_le h
 rw [pw_add]
 have h1 := zKK a
 have h2 := zKK c
 have : pw a * 1 <= pw a * pw c := Int.mul_le_mul_of_nonneg_left (by omega) (by omega)
 omega
def valN : List Int -> Int
 | [] => 0
 | d :: l => d + 1000000000 * valN l
theorem zOG (l m : List Int) : valN (l ++ m) = valN l + pw l.length * valN m := by
 induction l with
 | nil => simp [valN, pw]
 | cons d l ih => rw [List.cons_append, valN, valN, ih, List.length_cons, pw]; grind
theorem zFL (l : List Int) (d : Int) : valN (l ++ [d]) = valN l + pw l.length * d := by
 rw [zOG, valN, valN]; simp
def DigL (l : List Int) : Prop := ∀ d ∈ l, 0 <= d ∧ d < 1000000000
theorem DigL.nil : DigL [] := fun d h => by cases h
theorem DigL.snoc {l : List Int} {d : Int} (h : DigL l) (h0 : 0 <= d) (h1 : d < 1000000000) : DigL (l ++ [d]) := fun x hx => by
 rcases List.mem_append.1 hx with hx | hx
 ·exact h x hx
 ·simp at hx; subst hx; exact ⟨h0, h1⟩
theorem DigL.take {l : List Int} (h : DigL l) (k : Nat) : DigL (l.take k) := fun x hx => h x (List.mem_of_mem_take hx)
theorem DigL.bnd : ∀ {l : List Int}, DigL l -> 0 <= valN l ∧ valN l < pw l.length
 | [], _ => by simp [valN, pw]
 | d :: l, h => by
   have h1 := h d (by simp)
   have h2 := DigL.bnd (l := l) fun x hx => h x (by simp [hx])
   rw [valN, List.length_cons, pw]
   omega
def zGJ (l : List Int) : Prop := l.getLast? ≠ some 0
theorem zGJ.nil : zGJ [] := by simp [zGJ]
theorem zGJ.low {l : List Int} (hd : DigL l) (ht : zGJ l) (h0 : 0 < l.length) : pw (l.length - 1) <= valN l := by
 obtain ⟨m, d, rfl⟩ : ∃ m d, l = m ++ [d] := ⟨l.dropLast, l.getLast (by intro e; subst e; simp at h0), (List.dropLast_concat_getLast _).symm⟩
 have hd0 : d ≠ 0 := fun e => ht (by rw [e]; simp)
 have h1 := hd d (by simp)
 have h2 := DigL.bnd (l := m) fun x hx => hd x (by simp [hx])
 rw [zFL, List.length_append]
 simp only [List.length_cons, List.length_nil, Nat.zero_add, Nat.add_sub_cancel]
 have h3 := zKK m.length
 have : pw m.length * 1 <= pw m.length * d := Int.mul_le_mul_of_nonneg_left (by omega) (by omega)
 omega
theorem zGJ.of_low {l : List Int} (hd : DigL l) (h : 0 < l.length -> pw (l.length - 1) <= valN l) : zGJ l := by
 intro he
 obtain ⟨m, rfl⟩ := List.getLast?_eq_some_iff.1 he
 have h1 := h (by simp)
 rw [zFL, List.length_append] at h1
 have h2 := DigL.bnd (l := m) fun x hx => hd x (by simp [hx])
 simp only [List.length_cons, List.length_nil, Nat.zero_add, Nat.add_sub_cancel] at h1
 omega
theorem zLM {l : List Int} (hd : DigL l) (ht : zGJ l) : valN l = 0 ↔ l.length = 0 := by
 constructor
 ·intro h
  rcases Nat.eq_zero_or_pos l.length with h0 | h0
  ·exact h0
  ·have := ht.low hd h0
   have := zKK (l.length - 1)
   omega
 ·intro h
  have := List.eq_nil_of_length_eq_zero h
  subst this; rfl
theorem trim_lt {l m : List Int} (hl : DigL l) (hm : DigL m) (ht : zGJ m) (h : l.length < m.length) : valN l < valN m := by
 have h1 := hl.bnd
 have h2 := ht.low hm (by omega)
 have h3 := pw_mono (show l.length <= m.length - 1 by omega)
 omega
theorem trim_le {l m : List Int} (hl : DigL l) (hm : DigL m) (ht : zGJ l) (h : valN l <= valN m) : l.length <= m.length := by
 rcases Nat.lt_or_ge m.length l.length with c | c
 ·have := trim_lt hm hl ht c; omega
 ·exact c
def digF (l : List Int) (i : Nat) : Int := l[i]?.getD 0
theorem zEG {l : List Int} (h : DigL l) (i : Nat) : 0 <= digF l i ∧ digF l i < 1000000000 := by
 unfold digF
 cases e : l[i]? with
 | none => decide
 | some d => exact h d (List.mem_of_getElem? e)
theorem zEC (l : List Int) (k : Nat) : valN (l.take (k + 1)) = valN (l.take k) + pw k * digF l k := by
 rcases Nat.lt_or_ge k l.length with h | h
 ·rw [List.take_succ_eq_append_getElem h, zFL, List.length_take, Nat.min_eq_left (by omega)]
  unfold digF; rw [List.getElem?_eq_getElem h]; rfl
 ·rw [List.take_of_length_le (by omega), List.take_of_length_le h]
  unfold digF; rw [List.getElem?_eq_none h]; simp
theorem zED {l : List Int} {k : Nat} (h : l.length <= k) : valN (l.take k) = valN l := by rw [List.take_of_length_le h]
theorem zPC (l : List Int) (k : Nat) : valN l = valN (l.take k) + pw k * valN (l.drop k) := by
 rcases Nat.lt_or_ge k l.length with h | h
 ·conv => lhs; rw [<- List.take_append_drop k l]
  rw [zOG, List.length_take, Nat.min_eq_left (by omega)]
 ·rw [List.take_of_length_le h, List.drop_of_length_le h]; simp [valN]
theorem set_val {l : List Int} {k : Nat} (h : k < l.length) (d : Int) : valN (l.set k d) = valN l + pw k * (d - digF l k) := by
 have e : l.set k d = l.take k ++ d :: l.drop (k + 1) := by
  rw [List.set_eq_take_append_cons_drop, if_pos h]
 have e2 : valN l = valN (l.take k) + pw k * (digF l k + 1000000000 * valN (l.drop (k + 1))) := by
  rw [zPC l k, List.drop_eq_getElem_cons h, valN]
  unfold digF; rw [List.getElem?_eq_getElem h]; rfl
 rw [e, zOG, valN, List.length_take, Nat.min_eq_left (by omega), e2]
 grind
theorem DigL.set {l : List Int} (h : DigL l) {k : Nat} {d : Int} (h0 : 0 <= d) (h1 : d < 1000000000) : DigL (l.set k d) := fun x hx => by
 rcases List.mem_or_eq_of_mem_set hx with h2 | h2
 ·exact h x h2
 ·subst h2; exact ⟨h0, h1⟩
theorem top_lt {l m : List Int} (hl : DigL l) (hm : DigL m) {k : Nat} (he : ∀ i, k < i -> digF l i = digF m i) (hlen : l.length = m.length) (h : digF l k < digF m k) (hk : k < l.length) : valN l < valN m := by
 have hdrop : l.drop (k + 1) = m.drop (k + 1) := by
  refine List.ext_getElem (by simp [hlen]) fun i h1 h2 => ?_
  rw [List.length_drop] at h1 h2
  have := he (k + 1 + i) (by omega)
  unfold digF at this
  rw [List.getElem?_eq_getElem (by omega), List.getElem?_eq_getElem (by omega)] at this
  simpa using this
 have e1 := zPC l (k + 1)
 have e2 := zPC m (k + 1)
 rw [zEC, hdrop] at e1
 rw [zEC] at e2
 have b1 := (hl.take k).bnd
 have b2 := (hm.take k).bnd
 rw [List.length_take, Nat.min_eq_left (by omega)] at b1
 have h3 := zKK k
 have : pw k * (digF l k + 1) <= pw k * digF m k := Int.mul_le_mul_of_nonneg_left (by omega) (by omega)
 rw [Int.mul_add] at this
 omega
end
section
open Go.RowKit
def NatV (w : World) (v : Value) (L : Nat) (N : Int) : Prop := ∃ a n cap, ∃ l : List Int, v = .slice a n cap ∧ l.length = n ∧ n <= L ∧ zAH w a l ∧ DigL l ∧ zGJ l ∧ valN l = N
theorem NatV.below {w w' : World} {v : Value} {L : Nat} {N : Int} (h : NatV w v L N) (hb : Below w.heap.size w w') : NatV w' v L N := by
 obtain ⟨a, n, cap, l, h1, h2, h3, h4, h5⟩ := h
 exact ⟨a, n, cap, l, h1, h2, h3, h4.below hb, h5⟩
theorem NatV.le {w : World} {v : Value} {L K : Nat} {N : Int} (h : NatV w v L N) (hk : L <= K) : NatV w v K N := by
 obtain ⟨a, n, cap, l, h1, h2, h3, h4⟩ := h
 exact ⟨a, n, cap, l, h1, h2, by omega, h4⟩
theorem NatV.nonneg {w : World} {v : Value} {L : Nat} {N : Int} (h : NatV w v L N) : 0 <= N := by
 obtain ⟨a, n, cap, l, h1, h2, h3, h4, h5, h6, h7⟩ := h
 rw [<- h7]; exact h5.bnd.1
theorem zPE (w : World) (a : Option Addr) (n cap : Nat) (l : List Int) (hn : l.length = n) (hm : n <= 1000) (H : zAH w a l) (i : Nat) :
 Calls Tryz.prog 140 #[.slice a n cap, .int .i64 i] w fun e w' => e = .returned (.int .i64 (digF l i)) ∧ w = w' := by
 by_cases h : i < n
 ·obtain ⟨b, o, rfl, hb, hc⟩ := H i (by omega)
  have hv : l[i]?.getD 0 = digF l i := rfl
  rw [hv] at hc
  have i1 : (i : Int) < (n : Int) := by omega
  obtain ⟨d, hd⟩ := exq (digF l i)
  rw [<- hd] at hc ⊢
  clear H hn hv hd
  go_enter Tryz.func140, Tryz.ntmps140
  go_wp2
  go_ret
  exact ⟨rfl, rfl⟩
 ·have i1 : ¬ (i : Int) < (n : Int) := by omega
  have hd : digF l i = 0 := by unfold digF; rw [List.getElem?_eq_none (by omega)]; rfl
  rw [hd]
  clear H hn hd
  go_enter Tryz.func140, Tryz.ntmps140
  go_wp2
  go_ret
  exact ⟨rfl, rfl⟩
theorem li_nat : (Tryz.prog.info? 3).map (fun i => (i.zero, i.size, i.bytes)) = some (some (.int .i64 0), 1, 8) := by kernel_rfl
theorem natOf_c (w : World) (n : Int) (h0 : 0 <= n) (h1 : n <= 9223372036854775807) :
 Calls Tryz.prog 74 #[.int .i64 n] w fun e w' => ∃ v, e = .returned v ∧ NatV w' v 3 n ∧ Below w.heap.size w w' := by
 have p3 : pw 3 = 1000000000000000000000000000 := by decide +kernel
 go_enter Tryz.func74, Tryz.ntmps74
 go_wp2
 go_loopw [0, 3] (fun m v wr => ∃ (k : Int) (l : List Int), 0 <= k ∧ k <= n ∧ m = .int .i64 k ∧ wr.ownsRow w.heap.size 3 1 v l.length (l.map (Value.int .i64)) ∧ Below w.heap.size w wr ∧ Hid (l.length <= 3 ∧ DigL l ∧ valN l + pw l.length * k = n ∧ (0 < l.length -> pw (l.length - 1) <= n))) (fun m _ _ => (intOf m).toNat)
 case atStart => exact ⟨n, [], h0, Int.le_refl _, rfl, World.ownsRow_nil _ _ _ _, Below.refl _ _, hid ⟨by decide, DigL.nil, by simp [valN, pw], fun h => by simp at h⟩⟩
 case round =>
  obtain ⟨k, l, hk0, hkn, rfl, hown, hbk, HI⟩ := hrel
  by_cases hk : 0 < k
  ·obtain ⟨L, hL⟩ := exq (l.length)
   rw [<- hL] at hown
   obtain ⟨va, vc, rfl⟩ := zAC hown
   have HO := hid hown
   obtain ⟨i1, i2, i3, i4⟩ := HI.out
   have hb := i2.bnd
   have hpk : pw l.length <= n := by
    have h2 := zKK l.length
    have : pw l.length * 1 <= pw l.length * k := Int.mul_le_mul_of_nonneg_left (by omega) (by omega)
    omega
   have hl2 : l.length <= 2 := by
    rcases Nat.lt_or_ge 2 l.length with h | h
    ·have := pw_mono (show 3 <= l.length by omega); omega
    ·exact h
   have et : k.tmod 1000000000 = k % 1000000000 := Int.tmod_eq_emod_of_nonneg hk0
   have ed : k.tdiv 1000000000 = k / 1000000000 := Int.tdiv_eq_ediv_of_nonneg hk0
   have HN := hid (show (l ++ [k % 1000000000]).length <= 3 ∧ DigL (l ++ [k % 1000000000]) ∧ valN (l ++ [k % 1000000000]) + pw (l ++ [k % 1000000000]).length * (k / 1000000000) = n ∧ (0 < (l ++ [k % 1000000000]).length -> pw ((l ++ [k % 1000000000]).length - 1) <= n) from by
    refine ⟨by simp; omega, i2.snoc (by omega) (by omega), ?_, fun _ => by simpa using hpk⟩
    rw [zFL, List.length_append]
    simp only [List.length_cons, List.length_nil, Nat.zero_add]
    rw [pw]
    have : k = k % 1000000000 + 1000000000 * (k / 1000000000) := by omega
    generalize k % 1000000000 = r at this ⊢
    generalize k / 1000000000 = q at this ⊢
    subst this
    grind)
   obtain ⟨r, hr⟩ := exq (k % 1000000000)
   obtain ⟨q, hq⟩ := exq (k / 1000000000)
   rw [<- hr] at et HN
   rw [<- hq] at ed HN
   have hr1 : 0 <= r ∧ r < 1000000000 := by omega
   have hq1 : 0 <= q ∧ q < k := by omega
   have M1 := hid (show L + 1 <= maxLen by unfold maxLen; omega)
   have M2 := hid (show (L + 1) * 8 <= 140737488355328 by omega)
   have M3 := hid (Nat.le_trans hbk.size (zBL wr (.cells #[.int .i64 r] 3)))
   have HLL := hid hL
   clear hown i1 i2 i3 i4 hb hpk hl2 hr hq hL HI p3
   go_wp2_with (at_builtin; refine zAJ _ rfl (.tmp 8) (.tmp 11) 35 rfl w.heap.size 3 (.int .i64 0) 1 8 Tryz.underlying35 li_nat rfl Nat.one_pos (.slice va L vc) L _ rfl (HO.out.alloc _) (some ⟨wr.heap.size, 0, none⟩) 1 1 [.int .i64 r] rfl rfl zBN (zBH wr _ _) (zDZ _) M1.out M2.out M3.out ?_; refine Stop.of ?_)
   refine Stop.go ?_
   intro a3 c3 w3 own3 g3
   have hB3 : Below w.heap.size w w3 := (hbk.alloc hbk.size _).grown g3 M3.out (fun k hk => (HO.out.lt k hk).1)
   go_wp2
   refine ⟨⟨q, l ++ [r], hq1.1, by omega, rfl, ?_, hB3, HN⟩, by simp [intOf]; omega⟩
   rw [List.length_append, <- HLL.out]
   simpa using own3
  ·obtain rfl : k = 0 := by omega
   obtain ⟨va, vc, rfl⟩ := zAC hown
   have HO := hid hown
   obtain ⟨i1, i2, i3, i4⟩ := HI.out
   rw [Int.mul_zero, Int.add_zero] at i3
   have HNV := hid (show ∀ a c, (Value.slice va l.length vc = .slice a l.length c -> zAH wr a l -> NatV wr (.slice va l.length vc) 3 n) from fun a c e hI => ⟨a, l.length, c, l, e, rfl, i1, hI, i2, zGJ.of_low i2 (fun h => by rw [i3]; exact i4 h), i3⟩)
   obtain ⟨a5, c5, e5, hI5, _⟩ := zCN hown rfl
   have HF := hid (HNV.out a5 c5 e5 hI5)
   clear hown i1 i2 i3 i4 HI HNV e5 hI5 p3
   go_wp2
   go_ret
   exact ⟨_, rfl, HF.out, hbk⟩
def lenOf : Value -> Nat
 | .slice _ k _ => k
 | _ => 0
theorem trimmed_c (w : World) (a : Option Addr) (n cap : Nat) (l : List Int) (hn : l.length = n) (hm : n <= 1000) (hc : n <= cap) (H : zAH w a l) (hd : DigL l) :
 Calls Tryz.prog 141 #[.slice a n cap] w fun e w' => ∃ v, e = .returned v ∧ NatV w' v n (valN l) ∧ Below w.heap.size w w' := by
 have HN := hid hn
 have HH := hid H
 have HD := hid hd
 clear hn H hd
 go_enter Tryz.func141, Tryz.ntmps141
 go_wp2
 go_loopw [0] (fun v wr => ∃ k : Nat, k <= n ∧ v = .slice a k cap ∧ wr = w ∧ Hid (valN (l.take k) = valN l)) (fun v _ => lenOf v)
 case atStart => exact ⟨n, Nat.le_refl _, rfl, rfl, hid (zED (by rw [HN.out]; exact Nat.le_refl _))⟩
 case round =>
  obtain ⟨k, hk, rfl, rfl, HV⟩ := hrel
  have hfin : zGJ (l.take k) -> NatV wr (.slice a k cap) n (valN l) := fun ht => by
   refine ⟨a, k, cap, l.take k, rfl, by rw [List.length_take, HN.out]; omega, hk, fun j hj => ?_, HD.out.take k, ht, HV.out⟩
   rw [List.length_take] at hj
   obtain ⟨b, o, e, hb, hc⟩ := HH.out j (by omega)
   refine ⟨b, o, e, hb, ?_⟩
   rw [hc, List.getElem?_take_of_lt (by omega)]
  have HF := hid hfin
  clear hfin
  rcases Nat.eq_zero_or_pos k with hk0 | hk0
  ·subst hk0
   have hF := HF.out (by rw [List.take_zero]; exact zGJ.nil)
   have HFF := hid hF
   clear hF HF
   go_wp2
   go_ret
   exact ⟨_, rfl, HFF.out, Below.refl _ _⟩
  ·obtain ⟨j, rfl⟩ : ∃ j, k = j + 1 := ⟨k - 1, by omega⟩
   obtain ⟨b, o, rfl, hb, hcj⟩ := HH.out j (by rw [HN.out]; omega)
   have hv : l[j]?.getD 0 = digF l j := rfl
   rw [hv] at hcj
   have htv := zEC l j
   have HX := hid (fun (h : digF l j = 0) => show valN (l.take j) = valN l from by rw [<- HV.out, htv, h]; simp)
   have HY := hid (fun (h : digF l j ≠ 0) => HF.out (by
    have hjl : j < l.length := by rw [HN.out]; omega
    rw [List.take_succ_eq_append_getElem hjl]
    unfold zGJ
    simp only [List.getLast?_append, List.getLast?_singleton]
    intro e
    refine h ?_
    unfold digF
    rw [List.getElem?_eq_getElem hjl]
    simpa using e))
   obtain ⟨d, hdd⟩ := exq (digF l j)
   rw [<- hdd] at hcj HX HY
   have i1 : ((j + 1 : Nat) : Int) - 1 = (j : Int) := by omega
   have i2 : (j : Int) < ((j + 1 : Nat) : Int) := by omega
   have i3 : (0 : Int) < ((j + 1 : Nat) : Int) := by omega
   have i4 : IntKind.i64.wrap (((j + 1 : Nat) : Int) - 1) = (j : Int) := by rw [i1]; exact IntWalk.i64_in _ (by omega)
   have i5 : (j : Int) <= (cap : Int) := by omega
   obtain ⟨J, hJ⟩ := exq (j + 1)
   rw [<- hJ] at i1 i2 i3 i4 hk HY HF ⊢
   by_cases h0 : d = 0
   ·have hz := HX.out h0
    have HZ := hid hz
    have hjn : j <= n := by omega
    have hJJ : j < J := by omega
    subst h0
    clear hz HX HY HF hv htv hdd HV hJ
    go_wp2
    exact ⟨⟨j, hjn, rfl, by first | trivial | rfl, HZ⟩, by simp [lenOf]; omega⟩
   ·have hF := HY.out h0
    have HFF := hid hF
    have hdb : (d == 0) = false := by simp [h0]
    clear hF HX HY HF hv htv hdd HV hJ
    go_wp2
    go_ret
    exact ⟨_, rfl, HFF.out, Below.refl _ _⟩
theorem ord_len {l m : List Int} (hl : DigL l) (hm : DigL m) (tl : zGJ l) (tm : zGJ m) (h : l.length ≠ m.length) : cmpI (valN l) (valN m) = if l.length < m.length then -1 else 1 := by
 unfold cmpI
 by_cases c : l.length < m.length
 ·rw [if_pos c, if_pos (trim_lt hl hm tm c)]
 ·have := trim_lt hm hl tl (by omega)
  rw [if_neg c, if_neg (by omega), if_neg (by omega)]
theorem cmp_swap (V U : Int) (h : U < V) : cmpI V U = 1 := by unfold cmpI; rw [if_neg (by omega), if_neg (by omega)]
theorem order_c (w : World) (v u : Value) (L K : Nat) (N M : Int) (h : NatV w v L N) (k : NatV w u K M) (hL : L <= 1000) (hK : K <= 1000) :
 Calls Tryz.prog 77 #[v, u] w fun e w' => e = .returned (.int .i64 (cmpI N M)) ∧ Below w.heap.size w w' := by
 obtain ⟨a, n, cap, l, rfl, hn, hnL, H, hd, ht, rfl⟩ := h
 obtain ⟨a2, n2, cap2, m, rfl, hn2, hnK, H2, hd2, ht2, rfl⟩ := k
 by_cases hlen : n = n2
 rotate_left
 ·have hc := ord_len hd hd2 ht ht2 (by omega)
  rw [hn, hn2] at hc
  rw [hc]
  have hneb : ((n : Int) != (n2 : Int)) = true := by simp; omega
  clear H H2 hd hd2 ht ht2 hc hn hn2
  by_cases c : n < n2
  ·have i1 : (n : Int) < (n2 : Int) := by omega
   rw [if_pos c]
   go_enter Tryz.func77, Tryz.ntmps77
   go_wp2
   go_ret
   exact ⟨rfl, Below.refl _ _⟩
  ·have i1 : ¬ (n : Int) < (n2 : Int) := by omega
   rw [if_neg c]
   go_enter Tryz.func77, Tryz.ntmps77
   go_wp2
   go_ret
   exact ⟨rfl, Below.refl _ _⟩
 subst hlen
 have HT := hid (fun (i : Nat) (he : ∀ j, i < j -> digF l j = digF m j) (hi : i < n) => (show (digF l i < digF m i -> cmpI (valN l) (valN m) = -1) ∧ (digF m i < digF l i -> cmpI (valN l) (valN m) = 1) from
  ⟨fun h => by unfold cmpI; rw [if_pos (top_lt hd hd2 he (by omega) h (by omega))], fun h => cmp_swap _ _ (top_lt hd2 hd (fun j hj => (he j hj).symm) (by omega) h (by omega))⟩))
 have HE := hid (fun (he : ∀ j, digF l j = digF m j) => show cmpI (valN l) (valN m) = 0 from by
  have : l = m := List.ext_getElem (by omega) fun i h1 h2 => by
   have := he i
   unfold digF at this
   rw [List.getElem?_eq_getElem h1, List.getElem?_eq_getElem h2] at this
   simpa using this
  rw [this]; unfold cmpI; rw [if_neg (by omega), if_pos rfl])
 obtain ⟨C, hC⟩ := exq (cmpI (valN l) (valN m))
 rw [<- hC] at HT HE ⊢
 have HH := hid (fun (X : World) (hX : Below w.heap.size w X) => H.below hX)
 have HH2 := hid (fun (X : World) (hX : Below w.heap.size w X) => H2.below hX)
 have HN := hid hn
 have HN2 := hid hn2
 have hsub : IntKind.i64.wrap ((n : Int) - 1) = (n : Int) - 1 := IntWalk.i64_in _ (by omega)
 have hneb : ((n : Int) != (n : Int)) = false := by simp
 have HOUT := hid (show ∀ j, n <= j -> digF l j = digF m j from fun j hj => by
  unfold digF
  rw [List.getElem?_eq_none (by omega), List.getElem?_eq_none (by omega)])
 clear H H2 hd hd2 ht ht2 hC hn hn2
 go_enter Tryz.func77, Tryz.ntmps77
 go_wp2
 go_loopw [5] (fun i wr => ∃ k : Nat, k <= n ∧ i = .int .i64 ((k : Int) - 1) ∧ Below w.heap.size w wr ∧ Hid (∀ j, k <= j -> digF l j = digF m j)) (fun i _ => (intOf i + 1).toNat)
 case atStart => exact ⟨n, Nat.le_refl _, by simp, Below.refl _ _, HOUT⟩
 case round =>
  obtain ⟨k, hk, rfl, hbk, HQ⟩ := hrel
  rcases Nat.eq_zero_or_pos k with hk0 | hk0
  ·subst hk0
   obtain rfl : C = 0 := HE.out fun j => HQ.out j (Nat.zero_le _)
   go_wp2
   go_ret
   exact ⟨rfl, hbk⟩
  ·obtain ⟨j, rfl⟩ : ∃ j, k = j + 1 := ⟨k - 1, by omega⟩
   obtain ⟨b, o, rfl, hb, hc⟩ := (HH.out wr hbk) j (by rw [HN.out]; omega)
   obtain ⟨b2, o2, rfl, hb2, hc2⟩ := (HH2.out wr hbk) j (by rw [HN2.out]; omega)
   have hv : l[j]?.getD 0 = digF l j := rfl
   have hv2 : m[j]?.getD 0 = digF m j := rfl
   rw [hv] at hc
   rw [hv2] at hc2
   obtain ⟨HT1, HT2⟩ := HT.out j (fun i hi => HQ.out i (by omega)) (by omega)
   have HX := hid (fun (h : digF l j = digF m j) => show ∀ i, j <= i -> digF l i = digF m i from fun i hi => by
    rcases Nat.lt_or_ge j i with h1 | h1
    ·exact HQ.out i (by omega)
    ·obtain rfl : i = j := by omega
     exact h)
   obtain ⟨x, hx⟩ := exq (digF l j)
   obtain ⟨y, hy⟩ := exq (digF m j)
   rw [<- hx, <- hy] at HX HT1 HT2
   rw [<- hx] at hc
   rw [<- hy] at hc2
   have e1 : ((j + 1 : Nat) : Int) - 1 = (j : Int) := by omega
   rw [e1]
   have i1 : (j : Int) < (n : Int) := by omega
   have i2 : IntKind.i64.wrap ((j : Int) - 1) = (j : Int) - 1 := IntWalk.i64_in _ (by omega)
   clear hv hv2 hx hy HQ HT HE e1
   rcases Int.lt_trichotomy x y with c | c | c
   ·obtain rfl : C = -1 := HT1 c
    have HBK := hid hbk
    clear HT1 HT2 hbk
    go_wp2
    go_quiet (fail)
    go_wp2
    go_ret
    exact ⟨rfl, zAN HBK.out _⟩
   ·have hz := HX.out c
    have HZ := hid hz
    subst c
    have HBK := hid hbk
    clear HT1 HT2 hz HX hbk
    go_wp2
    go_quiet (fail)
    go_wp2
    go_quiet (fail)
    go_wp2
    refine ⟨⟨j, by omega, rfl, zAN HBK.out _, HZ⟩, by simp [intOf]⟩
   ·obtain rfl : C = 1 := HT2 c
    have i3 : ¬ x < y := by omega
    have HBK := hid hbk
    clear HT1 HT2 hbk
    go_wp2
    go_quiet (fail)
    go_wp2
    go_quiet (fail)
    go_wp2
    go_ret
    exact ⟨rfl, zAN (zAN HBK.out _) _⟩
end
section
open Go.RowKit
theorem plus_c (w : World) (v u : Value) (L K : Nat) (N M : Int) (h : NatV w v L N) (k : NatV w u K M) (hL : L <= 400) (hK : K <= 400) :
 Calls Tryz.prog 76 #[v, u] w fun e w' => ∃ x, e = .returned x ∧ NatV w' x (max L K + 1) (N + M) ∧ Below w.heap.size w w' := by
 obtain ⟨a, n, cap, l, rfl, hn, hnL, H, hd, ht, rfl⟩ := h
 obtain ⟨a2, n2, cap2, m, rfl, hn2, hnK, H2, hd2, ht2, rfl⟩ := k
 have HD1 := hid (fun (X : World) (hX : Below w.heap.size w X) (i : Nat) => zPE X a n cap l hn (by omega) (H.below hX) i)
 have HD2 := hid (fun (X : World) (hX : Below w.heap.size w X) (i : Nat) => zPE X a2 n2 cap2 m hn2 (by omega) (H2.below hX) i)
 obtain ⟨T, hT⟩ := exq (max n n2)
 have hTL : T <= max L K := by omega
 -- how the sum grows
 have HST := hid (fun (i : Nat) (o : List Int) (c : Int) (ho : o.length = i) (hod : DigL o) (hc : 0 <= c ∧ c <= 1) (hv : valN o + pw i * c = valN (l.take i) + valN (m.take i)) =>
  show 0 <= digF l i + digF m i + c ∧ digF l i + digF m i + c <= 1999999999 ∧ DigL (o ++ [(digF l i + digF m i + c) % 1000000000]) ∧ (0 <= (digF l i + digF m i + c) / 1000000000 ∧ (digF l i + digF m i + c) / 1000000000 <= 1) ∧
   valN (o ++ [(digF l i + digF m i + c) % 1000000000]) + pw (i + 1) * ((digF l i + digF m i + c) / 1000000000) = valN (l.take (i + 1)) + valN (m.take (i + 1)) from by
  have b1 := zEG hd i
  have b2 := zEG hd2 i
  refine ⟨by omega, by omega, hod.snoc (by omega) (by omega), by omega, ?_⟩
  rw [zFL, ho, zEC, zEC, pw]
  have : digF l i + digF m i + c = (digF l i + digF m i + c) % 1000000000 + 1000000000 * ((digF l i + digF m i + c) / 1000000000) := by omega
  generalize (digF l i + digF m i + c) % 1000000000 = r at this ⊢
  generalize (digF l i + digF m i + c) / 1000000000 = q at this ⊢
  have e : c = r + 1000000000 * q - digF l i - digF m i := by omega
  subst e
  grind)
 -- the sum when no more is to be added
 have HEN := hid (fun (i : Nat) (o : List Int) (ho : o.length = i) (hod : DigL o) (hi : T <= i) (hi2 : i <= T + 1) (hv : valN o + pw i * 0 = valN (l.take i) + valN (m.take i)) (hlast : T < i -> pw T <= valN l + valN m) =>
  show valN o = valN l + valN m ∧ zGJ o from by
  rw [zED (show l.length <= i by omega), zED (show m.length <= i by omega)] at hv
  refine ⟨by omega, zGJ.of_low hod fun hpos => ?_⟩
  rw [ho] at hpos ⊢
  rcases Nat.lt_or_ge T i with c | c
  ·obtain rfl : i = T + 1 := by omega
   have := hlast c
   rw [Nat.add_sub_cancel]; omega
  ·obtain rfl : i = T := by omega
   have c1 := hd.bnd
   have c2 := hd2.bnd
   rcases Nat.lt_or_ge n n2 with c | c
   ·have := ht2.low hd2 (by omega)
    rw [show m.length = i by omega] at this
    omega
   ·have := ht.low hd (by omega)
    rw [show l.length = i by omega] at this
    omega)
 have HLA := hid (fun (o : List Int) (hod : DigL o) (ho : o.length = T) (hv : valN o + pw T * 1 = valN (l.take T) + valN (m.take T)) => show pw T <= valN l + valN m from by
  rw [zED (show l.length <= T by omega), zED (show m.length <= T by omega)] at hv
  have := hod.bnd
  omega)
 have HZD := hid (fun (i : Nat) (hi : T <= i) => show digF l i = 0 ∧ digF m i = 0 from by
  unfold digF
  rw [List.getElem?_eq_none (by omega), List.getElem?_eq_none (by omega)]
  exact ⟨rfl, rfl⟩)
 have HDB := hid (fun (i : Nat) => And.intro (zEG hd i) (zEG hd2 i))
 obtain ⟨S, hS⟩ := exq (valN l + valN m)
 rw [<- hS] at HEN HLA ⊢
 have hT1 : n <= T := by omega
 have hT2 : n2 <= T := by omega
 have hT3 : T = n ∨ T = n2 := by omega
 have hT4 : T <= 400 := by omega
 clear H H2 hd hd2 ht ht2 hn hn2 hS hT
 go_enter Tryz.func76, Tryz.ntmps76
 go_wp2
 go_loopw [5, 6, 7] (fun o c i wr => ∃ (t : Nat) (ol : List Int) (cc : Int), t <= T + 1 ∧ i = .int .i64 t ∧ c = .int .i64 cc ∧ wr.ownsRow w.heap.size 3 1 o t (ol.map (Value.int .i64)) ∧ Below w.heap.size w wr ∧ 0 <= cc ∧ cc <= 1 ∧
  Hid (ol.length = t ∧ DigL ol ∧ valN ol + pw t * cc = valN (l.take t) + valN (m.take t) ∧ (T < t -> cc = 0 ∧ pw T <= S))) (fun _ _ i _ => T + 2 - (intOf i).toNat)
 case atStart => exact ⟨0, [], 0, Nat.zero_le _, rfl, rfl, World.ownsRow_nil _ _ _ _, Below.refl _ _, by decide, by decide, hid ⟨rfl, DigL.nil, by simp [valN], fun h => by omega⟩⟩
 case round =>
  obtain ⟨t, ol, cc, ht, rfl, rfl, hown, hbk, hc0, hc1, HI⟩ := hrel
  obtain ⟨va, vc, rfl⟩ := zAC hown
  by_cases hgo : t < T ∨ 0 < cc
  ·have htT : t <= T := by
    rcases hgo with h | h
    ·omega
    ·rcases Nat.lt_or_ge T t with c | c
     ·have := (HI.out.2.2.2 c).1; omega
     ·exact c
   obtain ⟨j1, j2, j3, j4, j5⟩ := HST.out t ol cc HI.out.1 HI.out.2.1 ⟨hc0, hc1⟩ HI.out.2.2.1
   have hlast : t = T -> cc = 1 := fun e => by omega
   have HC1 := hid (HD1.out wr hbk t)
   have HC2 := hid (HD2.out wr hbk t)
   have HLT := hid (show T < t + 1 -> (digF l t + digF m t + cc) / 1000000000 = 0 ∧ pw T <= S from fun h => by
    obtain rfl : t = T := by omega
    have hcc := hlast rfl
    subst hcc
    refine ⟨?_, HLA.out ol HI.out.2.1 HI.out.1 HI.out.2.2.1⟩
    obtain ⟨z1, z2⟩ := HZD.out t (Nat.le_refl _)
    rw [z1, z2]; decide)
   obtain ⟨⟨bx1, bx2⟩, by1, by2⟩ := HDB.out t
   obtain ⟨x, hx⟩ := exq (digF l t)
   obtain ⟨y, hy⟩ := exq (digF m t)
   rw [<- hx, <- hy] at j1 j2 j3 j4 j5 HLT
   rw [<- hx] at bx1 bx2
   rw [<- hy] at by1 by2
   rw [<- hx] at HC1
   rw [<- hy] at HC2
   have et : (x + y + cc).tmod 1000000000 = (x + y + cc) % 1000000000 := Int.tmod_eq_emod_of_nonneg j1
   have ed : (x + y + cc).tdiv 1000000000 = (x + y + cc) / 1000000000 := Int.tdiv_eq_ediv_of_nonneg j1
   obtain ⟨z, hz⟩ := exq (x + y + cc)
   have e1 : IntKind.i64.wrap (x + y) = x + y := IntWalk.i64_in _ (by omega)
   have e2 : IntKind.i64.wrap (x + y + cc) = z := by rw [<- hz]; exact IntWalk.i64_in _ (by omega)
   rw [<- hz] at et ed j1 j2 j3 j4 j5 HLT
   obtain ⟨r, hr⟩ := exq (z % 1000000000)
   obtain ⟨q, hq⟩ := exq (z / 1000000000)
   rw [<- hr] at et j3 j5
   rw [<- hq] at ed j4 j5 HLT
   have HNX := hid (show (ol ++ [r]).length = t + 1 ∧ DigL (ol ++ [r]) ∧ valN (ol ++ [r]) + pw (t + 1) * q = valN (l.take (t + 1)) + valN (m.take (t + 1)) ∧ (T < t + 1 -> q = 0 ∧ pw T <= S) from ⟨by simp [HI.out.1], j3, j5, HLT.out⟩)
   have HO := hid hown
   have HBK := hid hbk
   have M1 := hid (show t + 1 <= maxLen by unfold maxLen; omega)
   have M2 := hid (show (t + 1) * 8 <= 140737488355328 by omega)
   have M3 := hid (Nat.le_trans hbk.size (zBL wr (.cells #[.int .i64 r] 3)))
   have hgo3 : t < n ∨ (¬ t < n ∧ t < n2) ∨ (¬ t < n ∧ ¬ t < n2 ∧ 0 < cc) := by omega
   clear hown hbk HI HLT hx hy hz hr hq j1 j2 j3 j5 hlast hgo bx1 bx2 by1 by2 HST HEN HLA HZD HDB
   rcases hgo3 with g1 | ⟨g1, g2⟩ | ⟨g1, g2, g3⟩
   all_goals
    go_wp2_with (go_at_call 140; refine HC1.out.mono ?_; rintro e w1 ⟨rfl, rfl⟩; refine Stop.of ?_)
    refine Stop.go ?_
    go_wp2_with (go_at_call 140; refine HC2.out.mono ?_; rintro e w1 ⟨rfl, rfl⟩; refine Stop.of ?_)
    refine Stop.go ?_
    go_wp2_with (at_builtin; refine zAJ _ rfl (.tmp 34) (.tmp 37) 35 rfl w.heap.size 3 (.int .i64 0) 1 8 Tryz.underlying35 li_nat rfl Nat.one_pos (.slice va t vc) t _ rfl (HO.out.alloc _) (some ⟨wr.heap.size, 0, none⟩) 1 1 [.int .i64 r] rfl rfl zBN (zBH wr _ _) (zDZ _) M1.out M2.out M3.out ?_; refine Stop.of ?_)
    refine Stop.go ?_
    intro a3 c3 w3 own3 g3'
    have hB3 : Below w.heap.size w w3 := (HBK.out.alloc HBK.out.size _).grown g3' M3.out (fun k hk => (HO.out.lt k hk).1)
    go_wp2
    refine ⟨⟨t + 1, ol ++ [r], q, by omega, by go_num, rfl, ?_, hB3, j4.1, j4.2, HNX⟩, by simp [intOf]; omega⟩
    simpa using own3
  ·have g1 : ¬ t < n := by omega
   have g2 : ¬ t < n2 := by omega
   have g3 : ¬ 0 < cc := by omega
   obtain rfl : cc = 0 := by omega
   obtain ⟨i1, i2, i3, i4⟩ := HI.out
   obtain ⟨k1, k2⟩ := HEN.out t ol i1 i2 (by omega) ht i3 (fun h => (i4 h).2)
   obtain ⟨a5, c5, e5, hI5, _⟩ := zCN hown i1
   cases e5
   have HF := hid (show NatV wr (.slice va t vc) (max L K + 1) S from ⟨va, t, vc, ol, rfl, i1, by omega, hI5, i2, k2, k1⟩)
   have HBK := hid hbk
   clear hown hbk HI i1 i2 i3 i4 k1 k2 hI5
   go_wp2
   go_ret
   exact ⟨_, rfl, HF.out, HBK.out⟩
end
section
open Go.RowKit
theorem minus_c (w : World) (v u : Value) (L K : Nat) (N M : Int) (h : NatV w v L N) (k : NatV w u K M) (hL : L <= 1000) (hK : K <= 1000) (hle : M <= N) :
 Calls Tryz.prog 78 #[v, u] w fun e w' => ∃ x, e = .returned x ∧ NatV w' x L (N - M) ∧ Below w.heap.size w w' := by
 obtain ⟨a, n, cap, l, rfl, hn, hnL, H, hd, ht, rfl⟩ := h
 obtain ⟨a2, n2, cap2, m, rfl, hn2, hnK, H2, hd2, ht2, rfl⟩ := k
 have HD2 := hid (fun (X : World) (hX : Below w.heap.size w X) (i : Nat) => zPE X a2 n2 cap2 m hn2 (by omega) (H2.below hX) i)
 have HH := hid (fun (X : World) (hX : Below w.heap.size w X) => H.below hX)
 have HN := hid hn
 have hml := trim_le hd2 hd ht2 hle
 have HDB := hid (fun (i : Nat) => And.intro (zEG hd i) (zEG hd2 i))
 have HEN := hid (fun (o : List Int) (c : Int) (ho : o.length = n) (hod : DigL o) (hc : 0 <= c) (hv : valN o - pw n * c = valN (l.take n) - valN (m.take n)) => show valN o = valN l - valN m from by
  rw [zED (show l.length <= n by omega), zED (show m.length <= n by omega)] at hv
  have hb := hod.bnd
  rw [ho] at hb
  have hp := zKK n
  rcases Int.lt_or_le 0 c with h | h
  ·have : pw n * 1 <= pw n * c := Int.mul_le_mul_of_nonneg_left (by omega) (by omega)
   omega
  ·obtain rfl : c = 0 := by omega
   omega)
 have HST := hid (fun (i : Nat) (o : List Int) (c r c' : Int) (ho : o.length = i) (hv : valN o - pw i * c = valN (l.take i) - valN (m.take i)) (hr : r = digF l i - digF m i - c + 1000000000 * c') =>
  show valN (o ++ [r]) - pw (i + 1) * c' = valN (l.take (i + 1)) - valN (m.take (i + 1)) from by
  rw [zFL, ho, zEC, zEC, pw]
  subst hr
  grind)
 obtain ⟨S, hS⟩ := exq (valN l - valN m)
 rw [<- hS] at HEN ⊢
 clear H H2 hd hd2 ht ht2 hn hn2 hS hle hml
 go_enter Tryz.func78, Tryz.ntmps78
 go_wp2
 go_loopw [5, 6, 11] (fun o c i wr => ∃ (t : Nat) (ol : List Int) (cc : Int), t <= n ∧ i = .int .i64 t ∧ c = .int .i64 cc ∧ wr.ownsRow w.heap.size 3 1 o t (ol.map (Value.int .i64)) ∧ Below w.heap.size w wr ∧ 0 <= cc ∧ cc <= 1 ∧
  Hid (ol.length = t ∧ DigL ol ∧ valN ol - pw t * cc = valN (l.take t) - valN (m.take t))) (fun _ _ i _ => n - (intOf i).toNat)
 case atStart => exact ⟨0, [], 0, Nat.zero_le _, rfl, rfl, World.ownsRow_nil _ _ _ _, Below.refl _ _, by decide, by decide, hid ⟨rfl, DigL.nil, by simp [valN]⟩⟩
 case round =>
  obtain ⟨t, ol, cc, ht, rfl, rfl, hown, hbk, hc0, hc1, HI⟩ := hrel
  obtain ⟨va, vc, rfl⟩ := zAC hown
  by_cases hlt : t < n
  ·obtain ⟨b, o, rfl, hb, hc⟩ := (HH.out wr hbk) t (by rw [HN.out]; exact hlt)
   have hv : l[t]?.getD 0 = digF l t := rfl
   rw [hv] at hc
   obtain ⟨⟨bx1, bx2⟩, by1, by2⟩ := HDB.out t
   have HS := hid (fun r c' (hr : r = digF l t - digF m t - cc + 1000000000 * c') => HST.out t ol cc r c' HI.out.1 HI.out.2.2 hr)
   have HDG := hid (fun (X : World) (hX : Below w.heap.size w X) => HD2.out X hX t)
   obtain ⟨x, hx⟩ := exq (digF l t)
   obtain ⟨y, hy⟩ := exq (digF m t)
   rw [<- hx] at hc bx1 bx2 HS
   rw [<- hy] at by1 by2 HS HDG
   have e1 : IntKind.i64.wrap (x - y) = x - y := IntWalk.i64_in _ (by omega)
   obtain ⟨z, hz⟩ := exq (x - y - cc)
   have e2 : IntKind.i64.wrap (x - y - cc) = z := by rw [<- hz]; exact IntWalk.i64_in _ (by omega)
   rw [<- hz] at HS
   have hzb : -1000000000 <= z ∧ z < 1000000000 := by omega
   have hO := hid hown
   have HO := hid (fun (X : World) (hX : Below wr.heap.size wr X) => zBJ hown hX)
   have HBK := hid hbk
   have M1 := hid (show t + 1 <= maxLen by unfold maxLen; omega)
   have M2 := hid (show (t + 1) * 8 <= 140737488355328 by omega)
   have i1 : (t : Int) < (n : Int) := by omega
   clear hown hv hx hy hz HST HEN HDB bx1 bx2 by1 by2 hO hb
   go_wp2
   go_quiet (first | (go_at_call 140; exact Calls.quiet_of_same ((HDG.out _ (by repeat (first | exact hbk | refine zAN ?_ _))).mono fun _ _ h => ⟨h.1, h.2.symm⟩)))
   have HB2 := hid (zAN HBK.out nq)
   have HO2 := hid (HO.out _ (zAN (Below.refl _ _) nq))
   clear HO hbk hc HDG HH HD2 HBK
   generalize wr.drewN nq = wq at HB2 HO2 ⊢
   by_cases hneg : z < 0
   ·obtain ⟨r, hr⟩ := exq (z + 1000000000)
    have e3 : IntKind.i64.wrap (z + 1000000000) = r := by rw [<- hr]; exact IntWalk.i64_in _ (by omega)
    have HNX := hid (show (ol ++ [r]).length = t + 1 ∧ DigL (ol ++ [r]) ∧ valN (ol ++ [r]) - pw (t + 1) * 1 = valN (l.take (t + 1)) - valN (m.take (t + 1)) from ⟨by simp [HI.out.1], HI.out.2.1.snoc (by omega) (by omega), HS.out r 1 (by omega)⟩)
    have M3 := hid (Nat.le_trans HB2.out.size (zBL wq (.cells #[.int .i64 r] 3)))
    clear hr HI HS
    go_wp2_with (at_builtin; refine zAJ _ rfl (.tmp 28) (.tmp 30) 35 rfl w.heap.size 3 (.int .i64 0) 1 8 Tryz.underlying35 li_nat rfl Nat.one_pos (.slice va t vc) t _ rfl (HO2.out.alloc _) (some ⟨wq.heap.size, 0, none⟩) 1 1 [.int .i64 r] rfl rfl zBN (zBH wq _ _) (zDZ _) M1.out M2.out M3.out ?_; refine Stop.of ?_)
    refine Stop.go ?_
    intro a3 c3 w3 own3 g3'
    have hB3 : Below w.heap.size w w3 := (HB2.out.alloc HB2.out.size _).grown g3' M3.out (fun k hk => (HO2.out.lt k hk).1)
    go_wp2
    refine ⟨⟨t + 1, ol ++ [r], 1, by omega, by go_num, rfl, ?_, hB3, by decide, by decide, HNX⟩, by simp [intOf]; omega⟩
    simpa using own3
   ·have HNX := hid (show (ol ++ [z]).length = t + 1 ∧ DigL (ol ++ [z]) ∧ valN (ol ++ [z]) - pw (t + 1) * 0 = valN (l.take (t + 1)) - valN (m.take (t + 1)) from ⟨by simp [HI.out.1], HI.out.2.1.snoc (by omega) (by omega), HS.out z 0 (by omega)⟩)
    have M3 := hid (Nat.le_trans HB2.out.size (zBL wq (.cells #[.int .i64 z] 3)))
    clear HI HS
    go_wp2_with (at_builtin; refine zAJ _ rfl (.tmp 28) (.tmp 30) 35 rfl w.heap.size 3 (.int .i64 0) 1 8 Tryz.underlying35 li_nat rfl Nat.one_pos (.slice va t vc) t _ rfl (HO2.out.alloc _) (some ⟨wq.heap.size, 0, none⟩) 1 1 [.int .i64 z] rfl rfl zBN (zBH wq _ _) (zDZ _) M1.out M2.out M3.out ?_; refine Stop.of ?_)
    refine Stop.go ?_
    intro a3 c3 w3 own3 g3'
    have hB3 : Below w.heap.size w w3 := (HB2.out.alloc HB2.out.size _).grown g3' M3.out (fun k hk => (HO2.out.lt k hk).1)
    go_wp2
    refine ⟨⟨t + 1, ol ++ [z], 0, by omega, by go_num, rfl, ?_, hB3, by decide, by decide, HNX⟩, by simp [intOf]; omega⟩
    simpa using own3
  ·obtain rfl : t = n := by omega
   obtain ⟨i1, i2, i3⟩ := HI.out
   have hS := HEN.out ol cc i1 i2 hc0 i3
   obtain ⟨a5, c5, e5, hI5, _⟩ := zCN hown i1
   cases e5
   have HT := hid (trimmed_c wr va t vc ol i1 (by omega) (own_cap hown) hI5 i2)
   rw [hS] at HT
   have HBK := hid hbk
   clear hown hbk HI i1 i2 i3 hI5 hS HST HEN
   go_wp2_with (go_at_call 141; refine HT.out.mono ?_; rintro e w2 ⟨v2, rfl, hv2, hb2⟩; refine Stop.of ?_)
   refine Stop.go ?_
   have HF := hid (hv2.le hnL)
   have HB2 := hid (zAA HBK.out hb2)
   clear hv2 hb2
   go_wp2
   go_ret
   exact ⟨_, rfl, HF.out, HB2.out⟩
end
section
open Go.RowKit
theorem sp_madeN (w : World) (k : Nat) : zBT (w.alloc (.cells (madeCells #[.int .i64 0] k) 3)) w.heap.size (List.replicate k 0) := by
 have e : madeCells #[Value.int .i64 0] k = ((List.replicate k (0 : Int)).map (Value.int .i64)).toArray := by
  apply Array.toList_inj.1
  rw [toList_madeCells_one]; simp
 exact ⟨[], by rw [World.alloc_heap_new, e, List.append_nil]⟩
theorem valN_rep (k : Nat) : valN (List.replicate k 0) = 0 := by
 induction k with
 | zero => rfl
 | succ k ih => rw [List.replicate_succ, valN, ih]; rfl
theorem digF_rep (k i : Nat) : digF (List.replicate k 0) i = 0 := by
 unfold digF
 rcases Nat.lt_or_ge i k with h | h
 ·rw [List.getElem?_eq_getElem (by simpa using h)]; simp
 ·rw [List.getElem?_eq_none (by simpa using h)]; rfl
theorem digF_set {l : List Int} {k i : Nat} {d : Int} (h : k ≠ i) : digF (l.set k d) i = digF l i := by
 unfold digF; rw [List.getElem?_set_ne h]
theorem mul_dig {x y : Int} (hx : 0 <= x ∧ x < 1000000000) (hy : 0 <= y ∧ y < 1000000000) : 0 <= x * y ∧ x * y <= 999999998000000001 := by
 refine ⟨Int.mul_nonneg hx.1 hy.1, ?_⟩
 have h1 : x * y <= 999999999 * y := Int.mul_le_mul_of_nonneg_right (by omega) hy.1
 omega
theorem zKZ (w : World) (v u : Value) (L K : Nat) (N M : Int) (h : NatV w v L N) (k : NatV w u K M) (hL : L <= 400) (hK : K <= 400) :
 Calls Tryz.prog 75 #[v, u] w fun e w' => ∃ x, e = .returned x ∧ NatV w' x (L + K) (N * M) ∧ Below w.heap.size w w' := by
 obtain ⟨a, n, cap, l, rfl, hn, hnL, H, hd, ht, rfl⟩ := h
 obtain ⟨a2, n2, cap2, m, rfl, hn2, hnK, H2, hd2, ht2, rfl⟩ := k
 have HD2 := hid (fun (X : World) (hX : Below w.heap.size w X) (i : Nat) => zPE X a2 n2 cap2 m hn2 (by omega) (H2.below hX) i)
 have HH := hid (fun (X : World) (hX : Below w.heap.size w X) => H.below hX)
 have HN := hid hn
 have HDX := hid (fun (i : Nat) => zEG hd i)
 have HDY := hid (fun (i : Nat) => zEG hd2 i)
 have HZY := hid (show digF m n2 = 0 from by unfold digF; rw [List.getElem?_eq_none (by omega)]; rfl)
 have HTM := hid (fun j (hj : n2 <= j) => show valN (m.take j) = valN m from zED (by omega))
 have HTL := hid (show valN (l.take n) = valN l from zED (by omega))
 have HTS := hid (fun i => zEC l i)
 have HTS2 := hid (fun i => zEC m i)
 obtain ⟨P, hP⟩ := exq (valN l * valN m)
 rw [<- hP]
 have HP := hid hP
 obtain ⟨Z, hZ⟩ := exq (n + n2)
 have hZ4 : Z <= 800 := by omega
 have hZL : Z <= L + K := by omega
 have hmk : ∀ w, (Instr.makeSlice 35 (.int .i64 ((n : Int) + (n2 : Int))) (.int .i64 ((n : Int) + (n2 : Int)))).run Tryz.prog w = .ok (.slice (some ⟨w.heap.size, 0, none⟩) Z Z) (w.alloc (.cells (madeCells #[.int .i64 0] Z) 3)) :=
  fun w => by rw [show (n : Int) + (n2 : Int) = ((Z : Nat) : Int) by omega]; exact run_make_row' 35 3 (.int .i64 0) 8 Tryz.underlying35 li_nat rfl .i64 .i64 Z (by omega) (by omega) w
 obtain ⟨g, hg⟩ := exq (w.heap.size)
 obtain ⟨wa, hwa⟩ := exq (w.alloc (.cells (madeCells #[.int .i64 0] Z) 3))
 have hba : Below w.heap.size w wa := by rw [hwa]; exact (Below.refl _ _).alloc (Nat.le_refl _) _
 have hsp : zBT wa g (List.replicate Z 0) := by rw [hwa, hg]; exact sp_madeN w Z
 have HSP := hid hsp
 have HBA := hid hba
 have HG := hid (show w.heap.size <= g by omega)
 have HZ := hid hZ
 clear hZ
 clear H H2 hd hd2 ht ht2 hn hn2 hP hsp hba
 go_enter Tryz.func75, Tryz.ntmps75
 go_wp2_with fail
 rw [<- hg, <- hwa]
 clear hg hwa hmk
 go_loopw [19] (fun i wr => ∃ (t : Nat) (o : List Int), t <= n ∧ i = .int .i64 t ∧ zBT wr g o ∧ Below w.heap.size w wr ∧
  Hid (o.length = Z ∧ DigL o ∧ valN o = valN (l.take t) * valN m ∧ ∀ q, t + n2 <= q -> digF o q = 0)) (fun i _ => n - (intOf i).toNat)
 case atStart => exact ⟨0, _, Nat.zero_le _, rfl, HSP.out, HBA.out, hid ⟨by simp, fun d h => by rw [(List.mem_replicate.1 h).2]; decide, by rw [valN_rep]; simp [valN], fun q _ => digF_rep _ _⟩⟩
 case round =>
  obtain ⟨t, o, ht, rfl, hsp, hbk, HI⟩ := hrel
  by_cases hlt : t < n
  ·obtain ⟨b, oo, rfl, hb, hc⟩ := (HH.out wr hbk) t (by rw [HN.out]; exact hlt)
   have hv : l[t]?.getD 0 = digF l t := rfl
   rw [hv] at hc
   have HX := hid (HDX.out t)
   have HTX := hid (HTS.out t)
   obtain ⟨x, hx⟩ := exq (digF l t)
   rw [<- hx] at hc HX HTX
   have i1 : (t : Int) < (n : Int) := by omega
   have HSP1 := hid hsp
   have HBK1 := hid hbk
   obtain ⟨wo, hwo⟩ := exq (wr)
   subst hwo
   clear hv hx hsp hbk hb HSP HBA
   go_wp2
   clear hc
   go_loopw [8, 9] (fun c j wr => ∃ (s : Nat) (o2 : List Int) (cc : Int), s <= n2 + 1 ∧ j = .int .i64 s ∧ c = .int .i64 cc ∧ 0 <= cc ∧ cc < 1000000000 ∧ zBT wr g o2 ∧ Below w.heap.size w wr ∧
    Hid (o2.length = Z ∧ DigL o2 ∧ valN o2 + pw (t + s) * cc = valN (l.take t) * valN m + pw t * (x * valN (m.take s)) ∧ (n2 < s -> cc = 0) ∧ ∀ q, (s <= n2 -> t + n2 <= q -> digF o2 q = 0) ∧ (t + n2 + 1 <= q -> digF o2 q = 0))) (fun _ j _ => n2 + 2 - (intOf j).toNat)
   case atStart => exact ⟨0, o, 0, Nat.zero_le _, rfl, rfl, by decide, by decide, HSP1.out, HBK1.out, hid ⟨HI.out.1, HI.out.2.1, by rw [HI.out.2.2.1]; simp [valN], fun h => by omega, fun q => ⟨fun _ h => HI.out.2.2.2 q h, fun h => HI.out.2.2.2 q (by omega)⟩⟩⟩
   case round =>
    obtain ⟨s, o2, cc, hs, rfl, rfl, hc0, hc1, hsp, hbk, HJ⟩ := hrel
    by_cases hgo : s < n2 ∨ 0 < cc
    ·have hsn : s <= n2 := by
      rcases hgo with h | h
      ·omega
      ·rcases Nat.lt_or_ge n2 s with c | c
       ·have := HJ.out.2.2.2.1 c; omega
       ·exact c
     have htz : t + s < Z := by have := HZ.out; omega
     have hcell := hsp.cell (j := t + s) (by rw [HJ.out.1]; exact htz)
     have hvd : o2[t + s]?.getD 0 = digF o2 (t + s) := rfl
     rw [hvd] at hcell
     have hdb := zEG HJ.out.2.1 (t + s)
     have hyb := HDY.out s
     have hmb := mul_dig HX.out hyb
     have hdz : s = n2 -> digF o2 (t + s) = 0 := fun e => (HJ.out.2.2.2.2 (t + s)).1 hsn (by omega)
     have hyz : s = n2 -> digF m s = 0 := fun e => by rw [e]; exact HZY.out
     have HDG := hid (fun (X : World) (hX : Below w.heap.size w X) => HD2.out X hX s)
     have HST := hid (fun (r q : Int) (hrq : digF o2 (t + s) + x * digF m s + cc = r + 1000000000 * q) (hr0 : 0 <= r) (hr1 : r < 1000000000) (hqz : s = n2 -> q = 0) =>
      show (o2.set (t + s) r).length = Z ∧ DigL (o2.set (t + s) r) ∧ valN (o2.set (t + s) r) + pw (t + (s + 1)) * q = valN (l.take t) * valN m + pw t * (x * valN (m.take (s + 1))) ∧ (n2 < s + 1 -> q = 0) ∧ ∀ p, (s + 1 <= n2 -> t + n2 <= p -> digF (o2.set (t + s) r) p = 0) ∧ (t + n2 + 1 <= p -> digF (o2.set (t + s) r) p = 0) from by
      obtain ⟨j1, j2, j3, j4, j5⟩ := HJ.out
      refine ⟨by simp [j1], j2.set hr0 hr1, ?_, fun h => hqz (by omega), fun p => ⟨fun h1 h2 => ?_, fun h => ?_⟩⟩
      ·rw [set_val (by rw [j1]; exact htz), <- Nat.add_assoc, pw, HTS2.out s]
       have e1 := pw_add t s
       generalize digF o2 (t + s) = dd at hrq ⊢
       generalize digF m s = y at hrq ⊢
       generalize valN o2 = A at j3 ⊢
       generalize valN (l.take t) * valN m = B at j3 ⊢
       generalize valN (m.take s) = C at j3 ⊢
       rw [e1] at j3 ⊢
       generalize pw t = p1 at j3 ⊢
       generalize pw s = p2 at j3 ⊢
       have e2 : cc = r + 1000000000 * q - dd - x * y := by omega
       subst e2
       grind
      ·rw [digF_set (by omega)]; exact (j5 p).1 (by omega) h2
      ·rw [digF_set (by omega)]; exact (j5 p).2 h)
     obtain ⟨d, hdd⟩ := exq (digF o2 (t + s))
     obtain ⟨y, hy⟩ := exq (digF m s)
     rw [<- hdd] at hcell hdb hdz HST
     rw [<- hy] at hyb hmb hyz HST HDG
     have hj0 : 0 <= d + x * y + cc := by omega
     have et : (d + x * y + cc).tmod 1000000000 = (d + x * y + cc) % 1000000000 := Int.tmod_eq_emod_of_nonneg hj0
     have ed : (d + x * y + cc).tdiv 1000000000 = (d + x * y + cc) / 1000000000 := Int.tdiv_eq_ediv_of_nonneg hj0
     have hxz : s = n2 -> x * y = 0 := fun e => by rw [hyz e]; simp
     obtain ⟨xy, hxy⟩ := exq (x * y)
     rw [<- hxy] at hmb hj0 et ed HST hxz
     obtain ⟨z, hz⟩ := exq (d + xy + cc)
     rw [<- hz] at hj0 et ed HST
     obtain ⟨r, hr⟩ := exq (z % 1000000000)
     obtain ⟨q, hq⟩ := exq (z / 1000000000)
     rw [<- hr] at et
     rw [<- hq] at ed
     have HNX := hid (HST.out r q (by omega) (by omega) (by omega) (fun e => by have := hdz e; have := hxz e; omega))
     have hq0 : 0 <= q ∧ q < 1000000000 := by omega
     have e1 : IntKind.i64.wrap (x * y) = xy := by rw [<- hxy]; exact IntWalk.i64_in _ (by omega)
     have e2 : IntKind.i64.wrap (d + xy) = d + xy := IntWalk.i64_in _ (by omega)
     have e3 : IntKind.i64.wrap (d + xy + cc) = z := by rw [<- hz]; exact IntWalk.i64_in _ (by omega)
     have e5 : ((t : Int) + (s : Int)).toNat = t + s := by omega
     have i3 : (0 : Int) <= (t : Int) + (s : Int) := by omega
     have hfz := hsp.frozen (t + s)
     have i2 : (t : Int) + (s : Int) < (Z : Int) := by omega
     have HSS := hid (fun (X : World) (hX : zBT X g o2) => hX.set (t + s) (by rw [HJ.out.1]; exact htz) r)
     have HSP2 := hid hsp
     have HBK := hid hbk
     have hgo2 : s < n2 ∨ (¬ s < n2 ∧ 0 < cc) := by omega
     clear hvd hdb hyb hmb hdz hyz hxz hdd hy hxy hz hr hq hj0 HST HJ hgo htz hsp
     rcases hgo2 with g1 | ⟨g1, g2⟩
     all_goals
      go_wp2
      go_quiet (first | (go_at_call 140; exact Calls.quiet_of_same ((HDG.out _ (by repeat (first | exact HBK.out | refine zAN ?_ _))).mono fun _ _ h => ⟨h.1, h.2.symm⟩)))
      have hspd := HSP2.out.keep (w' := wr.drewN nq) rfl
      have HSPD := hid hspd
      have hcd : (wr.drewN nq).cell? ⟨g, t + s, none⟩ = some (.int .i64 d) := hcell
      have hfd : (wr.drewN nq).frozen? ⟨g, t + s, none⟩ = false := hfz
      have HST2 := hid (HSS.out _ hspd)
      have HBE := hid (zAD (zAN HBK.out nq) HG.out (t + s) (.int .i64 r))
      clear hspd hcell hfz HSS HDG HSP2 HBK
      generalize wr.drewN nq = wq at HSPD hcd hfd HST2 HBE ⊢
      go_wp2
      refine ⟨⟨s + 1, _, q, by omega, by go_num, rfl, hq0.1, hq0.2, HST2.out, HBE.out, HNX⟩, by simp [intOf]; omega⟩
    ·have g1 : ¬ s < n2 := by omega
     have g2 : ¬ 0 < cc := by omega
     obtain rfl : cc = 0 := by omega
     obtain ⟨j1, j2, j3, j4, j5⟩ := HJ.out
     have HNO := hid (show o2.length = Z ∧ DigL o2 ∧ valN o2 = valN (l.take (t + 1)) * valN m ∧ ∀ q, t + 1 + n2 <= q -> digF o2 q = 0 from by
      refine ⟨j1, j2, ?_, fun q hq => (j5 q).2 (by omega)⟩
      rw [HTM.out s (by omega)] at j3
      rw [HTX.out, Int.add_mul]
      have : pw t * (x * valN m) = pw t * x * valN m := by rw [Int.mul_assoc]
      omega)
     have HSP2 := hid hsp
     have HBK := hid hbk
     clear HJ j1 j2 j3 j4 j5 hsp hbk hgo
     go_wp2
     refine ⟨⟨t + 1, o2, by omega, by go_num, HSP2.out, HBK.out, HNO⟩, by simp [intOf]; omega⟩
  ·obtain rfl : t = n := by omega
   obtain ⟨j1, j2, j3, j4⟩ := HI.out
   rw [HTL.out, <- HP.out] at j3
   have HT := hid (trimmed_c wr (some ⟨g, 0, none⟩) Z Z o j1 (by omega) (Nat.le_refl _) hsp.ints j2)
   rw [j3] at HT
   have HBK := hid hbk
   clear HI j1 j2 j3 j4 hsp hbk
   go_wp2_with (go_at_call 141; refine HT.out.mono ?_; rintro e w2 ⟨v2, rfl, hv2, hb2⟩; refine Stop.of ?_)
   refine Stop.go ?_
   have HF := hid (hv2.le hZL)
   have HB2 := hid (zAA HBK.out hb2)
   clear hv2 hb2
   go_wp2
   go_ret
   exact ⟨_, rfl, HF.out, HB2.out⟩
end
end Go.Proofs.YtlffndehhhpgjaaGreat
