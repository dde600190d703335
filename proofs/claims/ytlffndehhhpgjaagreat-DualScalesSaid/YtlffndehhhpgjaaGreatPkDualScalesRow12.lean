/- Walks and plain laws for DualScalesRow, part 12. -/
import Derived.ChangeOld
import Derived.Deep.Slices
import Derived.Lib.SmallJoins
import Derived.Test.YtlffndehhhpgjaaGreatChecked
import Derived.Test.YtlffndehhhpgjaaGreatRows
import Derived.JoinedOf
import Derived.ProofKit
import Derived.Test.YtlffndehhhpgjaaGreatPkDualScalesRow11
namespace Go.Proofs.YtlffndehhhpgjaaGreat
open Go.RowKit
set_option linter.unusedVariables false
set_option linter.unusedSimpArgs false

theorem sp_madeN (w : World) (k : Nat) : SpRow (w.alloc (.cells (madeCells #[.int .i64 0] k) 3)) w.heap.size (List.replicate k 0) := by
  have e : madeCells #[Value.int .i64 0] k = ((List.replicate k (0 : Int)).map (Value.int .i64)).toArray := by
    apply Array.toList_inj.1
    rw [toList_madeCells_one]; simp
  exact ⟨[], by rw [World.alloc_heap_new, e, List.append_nil]⟩
theorem valN_rep (k : Nat) : valN (List.replicate k 0) = 0 := by
  induction k with
  | zero => rfl
  | succ k ih => rw [List.replicate_succ, valN, ih]; rfl
theorem digF_rep (k i : Nat) : digF (List.replicate k 0) i = 0 := by
  unfold digF
  rcases Nat.lt_or_ge i k with h | h
  · rw [List.getElem?_eq_getElem (by simpa using h)]; simp
  · rw [List.getElem?_eq_none (by simpa using h)]; rfl
theorem digF_set {l : List Int} {k i : Nat} {d : Int} (h : k ≠ i) : digF (l.set k d) i = digF l i := by
  unfold digF; rw [List.getElem?_set_ne h]
theorem mul_dig {x y : Int} (hx : 0 ≤ x ∧ x < 1000000000) (hy : 0 ≤ y ∧ y < 1000000000) : 0 ≤ x * y ∧ x * y ≤ 999999998000000001 := by
  refine ⟨Int.mul_nonneg hx.1 hy.1, ?_⟩
  have h1 : x * y ≤ 999999999 * y := Int.mul_le_mul_of_nonneg_right (by omega) hy.1
  omega

set_option maxRecDepth 100000 in
set_option maxHeartbeats 4000000 in
theorem ntimes_c (w : World) (v u : Value) (L K : Nat) (N M : Int) (h : NatV w v L N) (k : NatV w u K M) (hL : L ≤ 400) (hK : K ≤ 400) :
    Calls Tryz.prog 75 #[v, u] w fun e w' => ∃ x, e = .returned x ∧ NatV w' x (L + K) (N * M) ∧ Below w.heap.size w w' := by
  obtain ⟨a, n, cap, l, rfl, hn, hnL, H, hd, ht, rfl⟩ := h
  obtain ⟨a2, n2, cap2, m, rfl, hn2, hnK, H2, hd2, ht2, rfl⟩ := k
  have HD2 := hid (fun (X : World) (hX : Below w.heap.size w X) (i : Nat) => digit_c X a2 n2 cap2 m hn2 (by omega) (H2.below hX) i)
  have HH := hid (fun (X : World) (hX : Below w.heap.size w X) => H.below hX)
  have HN := hid hn
  have HDX := hid (fun (i : Nat) => digF_bnd hd i)
  have HDY := hid (fun (i : Nat) => digF_bnd hd2 i)
  have HZY := hid (show digF m n2 = 0 from by unfold digF; rw [List.getElem?_eq_none (by omega)]; rfl)
  have HTM := hid (fun j (hj : n2 ≤ j) => show valN (m.take j) = valN m from take_all (by omega))
  have HTL := hid (show valN (l.take n) = valN l from take_all (by omega))
  have HTS := hid (fun i => take_val l i)
  have HTS2 := hid (fun i => take_val m i)
  obtain ⟨P, hP⟩ : ∃ P, P = valN l * valN m := ⟨_, rfl⟩
  rw [← hP]
  have HP := hid hP
  obtain ⟨Z, hZ⟩ : ∃ Z, Z = n + n2 := ⟨_, rfl⟩
  have hZ4 : Z ≤ 800 := by omega
  have hZL : Z ≤ L + K := by omega
  have hmk : ∀ w, (Instr.makeSlice 35 (.int .i64 ((n : Int) + (n2 : Int))) (.int .i64 ((n : Int) + (n2 : Int)))).run Tryz.prog w = .ok (.slice (some ⟨w.heap.size, 0, none⟩) Z Z) (w.alloc (.cells (madeCells #[.int .i64 0] Z) 3)) :=
    fun w => by rw [show (n : Int) + (n2 : Int) = ((Z : Nat) : Int) by omega]; exact run_make_row' 35 3 (.int .i64 0) 8 Tryz.underlying35 li_nat rfl .i64 .i64 Z (by omega) (by omega) w
  obtain ⟨g, hg⟩ : ∃ g, g = w.heap.size := ⟨_, rfl⟩
  obtain ⟨wa, hwa⟩ : ∃ wa, wa = w.alloc (.cells (madeCells #[.int .i64 0] Z) 3) := ⟨_, rfl⟩
  have hba : Below w.heap.size w wa := by rw [hwa]; exact (Below.refl _ _).alloc (Nat.le_refl _) _
  have hsp : SpRow wa g (List.replicate Z 0) := by rw [hwa, hg]; exact sp_madeN w Z
  have HSP := hid hsp
  have HBA := hid hba
  have HG := hid (show w.heap.size ≤ g by omega)
  have HZ := hid hZ
  clear hZ
  clear H H2 hd hd2 ht ht2 hn hn2 hP hsp hba
  go_enter Tryz.func75, Tryz.ntmps75
  go_wp2_with fail
  rw [← hg, ← hwa]
  clear hg hwa hmk
  go_loopw [19] (fun i wr => ∃ (t : Nat) (o : List Int), t ≤ n ∧ i = .int .i64 t ∧ SpRow wr g o ∧ Below w.heap.size w wr ∧
    Hid (o.length = Z ∧ DigL o ∧ valN o = valN (l.take t) * valN m ∧ ∀ q, t + n2 ≤ q → digF o q = 0)) (fun i _ => n - (intOf i).toNat)
  case atStart => exact ⟨0, _, Nat.zero_le _, rfl, HSP.out, HBA.out, hid ⟨by simp, fun d h => by rw [(List.mem_replicate.1 h).2]; decide, by rw [valN_rep]; simp [valN], fun q _ => digF_rep _ _⟩⟩
  case round =>
    obtain ⟨t, o, ht, rfl, hsp, hbk, HI⟩ := hrel
    by_cases hlt : t < n
    · obtain ⟨b, oo, rfl, hb, hc⟩ := (HH.out wr hbk) t (by rw [HN.out]; exact hlt)
      have hv : l[t]?.getD 0 = digF l t := rfl
      rw [hv] at hc
      have HX := hid (HDX.out t)
      have HTX := hid (HTS.out t)
      obtain ⟨x, hx⟩ : ∃ x, x = digF l t := ⟨_, rfl⟩
      rw [← hx] at hc HX HTX
      have i1 : (t : Int) < (n : Int) := by omega
      have HSP1 := hid hsp
      have HBK1 := hid hbk
      obtain ⟨wo, hwo⟩ : ∃ wo, wo = wr := ⟨_, rfl⟩
      subst hwo
      clear hv hx hsp hbk hb HSP HBA
      go_wp2
      clear hc
      go_loopw [8, 9] (fun c j wr => ∃ (s : Nat) (o2 : List Int) (cc : Int), s ≤ n2 + 1 ∧ j = .int .i64 s ∧ c = .int .i64 cc ∧ 0 ≤ cc ∧ cc < 1000000000 ∧ SpRow wr g o2 ∧ Below w.heap.size w wr ∧
        Hid (o2.length = Z ∧ DigL o2 ∧ valN o2 + pw (t + s) * cc = valN (l.take t) * valN m + pw t * (x * valN (m.take s)) ∧ (n2 < s → cc = 0) ∧ ∀ q, (s ≤ n2 → t + n2 ≤ q → digF o2 q = 0) ∧ (t + n2 + 1 ≤ q → digF o2 q = 0))) (fun _ j _ => n2 + 2 - (intOf j).toNat)
      case atStart => exact ⟨0, o, 0, Nat.zero_le _, rfl, rfl, by decide, by decide, HSP1.out, HBK1.out, hid ⟨HI.out.1, HI.out.2.1, by rw [HI.out.2.2.1]; simp [valN], fun h => by omega, fun q => ⟨fun _ h => HI.out.2.2.2 q h, fun h => HI.out.2.2.2 q (by omega)⟩⟩⟩
      case round =>
        obtain ⟨s, o2, cc, hs, rfl, rfl, hc0, hc1, hsp, hbk, HJ⟩ := hrel
        by_cases hgo : s < n2 ∨ 0 < cc
        · have hsn : s ≤ n2 := by
            rcases hgo with h | h
            · omega
            · rcases Nat.lt_or_ge n2 s with c | c
              · have := HJ.out.2.2.2.1 c; omega
              · exact c
          have htz : t + s < Z := by have := HZ.out; omega
          have hcell := hsp.cell (j := t + s) (by rw [HJ.out.1]; exact htz)
          have hvd : o2[t + s]?.getD 0 = digF o2 (t + s) := rfl
          rw [hvd] at hcell
          have hdb := digF_bnd HJ.out.2.1 (t + s)
          have hyb := HDY.out s
          have hmb := mul_dig HX.out hyb
          have hdz : s = n2 → digF o2 (t + s) = 0 := fun e => (HJ.out.2.2.2.2 (t + s)).1 hsn (by omega)
          have hyz : s = n2 → digF m s = 0 := fun e => by rw [e]; exact HZY.out
          have HDG := hid (fun (X : World) (hX : Below w.heap.size w X) => HD2.out X hX s)
          have HST := hid (fun (r q : Int) (hrq : digF o2 (t + s) + x * digF m s + cc = r + 1000000000 * q) (hr0 : 0 ≤ r) (hr1 : r < 1000000000) (hqz : s = n2 → q = 0) =>
            show (o2.set (t + s) r).length = Z ∧ DigL (o2.set (t + s) r) ∧ valN (o2.set (t + s) r) + pw (t + (s + 1)) * q = valN (l.take t) * valN m + pw t * (x * valN (m.take (s + 1))) ∧ (n2 < s + 1 → q = 0) ∧ ∀ p, (s + 1 ≤ n2 → t + n2 ≤ p → digF (o2.set (t + s) r) p = 0) ∧ (t + n2 + 1 ≤ p → digF (o2.set (t + s) r) p = 0) from by
            obtain ⟨j1, j2, j3, j4, j5⟩ := HJ.out
            refine ⟨by simp [j1], j2.set hr0 hr1, ?_, fun h => hqz (by omega), fun p => ⟨fun h1 h2 => ?_, fun h => ?_⟩⟩
            · rw [set_val (by rw [j1]; exact htz), ← Nat.add_assoc, pw, HTS2.out s]
              have e1 := pw_add t s
              generalize digF o2 (t + s) = dd at hrq ⊢
              generalize digF m s = y at hrq ⊢
              generalize valN o2 = A at j3 ⊢
              generalize valN (l.take t) * valN m = B at j3 ⊢
              generalize valN (m.take s) = C at j3 ⊢
              rw [e1] at j3 ⊢
              generalize pw t = p1 at j3 ⊢
              generalize pw s = p2 at j3 ⊢
              have e2 : cc = r + 1000000000 * q - dd - x * y := by omega
              subst e2
              grind
            · rw [digF_set (by omega)]; exact (j5 p).1 (by omega) h2
            · rw [digF_set (by omega)]; exact (j5 p).2 h)
          obtain ⟨d, hdd⟩ : ∃ d, d = digF o2 (t + s) := ⟨_, rfl⟩
          obtain ⟨y, hy⟩ : ∃ y, y = digF m s := ⟨_, rfl⟩
          rw [← hdd] at hcell hdb hdz HST
          rw [← hy] at hyb hmb hyz HST HDG
          have hj0 : 0 ≤ d + x * y + cc := by omega
          have et : (d + x * y + cc).tmod 1000000000 = (d + x * y + cc) % 1000000000 := Int.tmod_eq_emod_of_nonneg hj0
          have ed : (d + x * y + cc).tdiv 1000000000 = (d + x * y + cc) / 1000000000 := Int.tdiv_eq_ediv_of_nonneg hj0
          have hxz : s = n2 → x * y = 0 := fun e => by rw [hyz e]; simp
          obtain ⟨xy, hxy⟩ : ∃ p, p = x * y := ⟨_, rfl⟩
          rw [← hxy] at hmb hj0 et ed HST hxz
          obtain ⟨z, hz⟩ : ∃ z, z = d + xy + cc := ⟨_, rfl⟩
          rw [← hz] at hj0 et ed HST
          obtain ⟨r, hr⟩ : ∃ r, r = z % 1000000000 := ⟨_, rfl⟩
          obtain ⟨q, hq⟩ : ∃ q, q = z / 1000000000 := ⟨_, rfl⟩
          rw [← hr] at et
          rw [← hq] at ed
          have HNX := hid (HST.out r q (by omega) (by omega) (by omega) (fun e => by have := hdz e; have := hxz e; omega))
          have hq0 : 0 ≤ q ∧ q < 1000000000 := by omega
          have e1 : IntKind.i64.wrap (x * y) = xy := by rw [← hxy]; exact IntWalk.i64_in _ (by omega)
          have e2 : IntKind.i64.wrap (d + xy) = d + xy := IntWalk.i64_in _ (by omega)
          have e3 : IntKind.i64.wrap (d + xy + cc) = z := by rw [← hz]; exact IntWalk.i64_in _ (by omega)
          have e5 : ((t : Int) + (s : Int)).toNat = t + s := by omega
          have i3 : (0 : Int) ≤ (t : Int) + (s : Int) := by omega
          have hfz := hsp.frozen (t + s)
          have i2 : (t : Int) + (s : Int) < (Z : Int) := by omega
          have HSS := hid (fun (X : World) (hX : SpRow X g o2) => hX.set (t + s) (by rw [HJ.out.1]; exact htz) r)
          have HSP2 := hid hsp
          have HBK := hid hbk
          have hgo2 : s < n2 ∨ (¬ s < n2 ∧ 0 < cc) := by omega
          clear hvd hdb hyb hmb hdz hyz hxz hdd hy hxy hz hr hq hj0 HST HJ hgo htz hsp
          rcases hgo2 with g1 | ⟨g1, g2⟩
          all_goals
            go_wp2
            go_quiet (first | (go_at_call 140; exact Calls.quiet_of_same ((HDG.out _ (by repeat (first | exact HBK.out | refine below_drewN ?_ _))).mono fun _ _ h => ⟨h.1, h.2.symm⟩)))
            have hspd := HSP2.out.keep (w' := wr.drewN nq) rfl
            have HSPD := hid hspd
            have hcd : (wr.drewN nq).cell? ⟨g, t + s, none⟩ = some (.int .i64 d) := hcell
            have hfd : (wr.drewN nq).frozen? ⟨g, t + s, none⟩ = false := hfz
            have HST2 := hid (HSS.out _ hspd)
            have HBE := hid (below_set (below_drewN HBK.out nq) HG.out (t + s) (.int .i64 r))
            clear hspd hcell hfz HSS HDG HSP2 HBK
            generalize wr.drewN nq = wq at HSPD hcd hfd HST2 HBE ⊢
            go_wp2
            refine ⟨⟨s + 1, _, q, by omega, by go_num, rfl, hq0.1, hq0.2, HST2.out, HBE.out, HNX⟩, by simp [intOf]; omega⟩
        · have g1 : ¬ s < n2 := by omega
          have g2 : ¬ 0 < cc := by omega
          obtain rfl : cc = 0 := by omega
          obtain ⟨j1, j2, j3, j4, j5⟩ := HJ.out
          have HNO := hid (show o2.length = Z ∧ DigL o2 ∧ valN o2 = valN (l.take (t + 1)) * valN m ∧ ∀ q, t + 1 + n2 ≤ q → digF o2 q = 0 from by
            refine ⟨j1, j2, ?_, fun q hq => (j5 q).2 (by omega)⟩
            rw [HTM.out s (by omega)] at j3
            rw [HTX.out, Int.add_mul]
            have : pw t * (x * valN m) = pw t * x * valN m := by rw [Int.mul_assoc]
            omega)
          have HSP2 := hid hsp
          have HBK := hid hbk
          clear HJ j1 j2 j3 j4 j5 hsp hbk hgo
          go_wp2
          refine ⟨⟨t + 1, o2, by omega, by go_num, HSP2.out, HBK.out, HNO⟩, by simp [intOf]; omega⟩
    · obtain rfl : t = n := by omega
      obtain ⟨j1, j2, j3, j4⟩ := HI.out
      rw [HTL.out, ← HP.out] at j3
      have HT := hid (trimmed_c wr (some ⟨g, 0, none⟩) Z Z o j1 (by omega) (Nat.le_refl _) hsp.ints j2)
      rw [j3] at HT
      have HBK := hid hbk
      clear HI j1 j2 j3 j4 hsp hbk
      go_wp2_with (go_at_call 141; refine HT.out.mono ?_; rintro e w2 ⟨v2, rfl, hv2, hb2⟩; refine Stop.of ?_)
      refine Stop.go ?_
      have HF := hid (hv2.le hZL)
      have HB2 := hid (chain HBK.out hb2)
      clear hv2 hb2
      go_wp2
      go_ret
      exact ⟨_, rfl, HF.out, HB2.out⟩
end Go.Proofs.YtlffndehhhpgjaaGreat

namespace Go.Proofs.YtlffndehhhpgjaaGreat
open Go.RowKit
set_option linter.unusedVariables false
set_option linter.unusedSimpArgs false

theorem NatV.slice {w : World} {v : Value} {L : Nat} {N : Int} (h : NatV w v L N) : ∃ a n cap, v = .slice a n cap := by
  obtain ⟨a, n, cap, l, h1, _⟩ := h
  exact ⟨a, n, cap, h1⟩
def RatQ (w : World) (v : Value) (L : Nat) (s : Bool) (N D : Int) : Prop := ∃ a n c b m e, v = .agg #[.bool s, .slice a n c, .slice b m e] ∧ NatV w (.slice a n c) L N ∧ NatV w (.slice b m e) L D
theorem RatQ.below {w w' : World} {v : Value} {L : Nat} {s : Bool} {N D : Int} (h : RatQ w v L s N D) (hb : Below w.heap.size w w') : RatQ w' v L s N D := by
  obtain ⟨a, n, c, b, m, e, h1, h2, h3⟩ := h
  exact ⟨a, n, c, b, m, e, h1, h2.below hb, h3.below hb⟩
theorem RatQ.le {w : World} {v : Value} {L K : Nat} {s : Bool} {N D : Int} (h : RatQ w v L s N D) (hk : L ≤ K) : RatQ w v K s N D := by
  obtain ⟨a, n, c, b, m, e, h1, h2, h3⟩ := h
  exact ⟨a, n, c, b, m, e, h1, h2.le hk, h3.le hk⟩

theorem NatV.keeps3 {w : World} {v0 : Value} {L : Nat} {N : Int} {g : Nat} {u v z : Value} (h : NatV w v0 L N) (hg : ∃ c, w.heap[g]? = some (.cells c 37 (0, 0)) ∧ ∀ x : Int, ∀ o : Nat, c[o]? ≠ some (.int .i64 x)) : NatV (((w.setCell ⟨g, 0, none⟩ u).setCell ⟨g, 1, none⟩ v).setCell ⟨g, 2, none⟩ z) v0 L N := by
  obtain ⟨a, n, cap, l, h1, h2, h3, h4, h5⟩ := h
  refine ⟨a, n, cap, l, h1, h2, h3, fun j hj => ?_, h5⟩
  obtain ⟨b, o, e, hb, hc⟩ := h4 j hj
  refine ⟨b, o, e, by simpa using hb, ?_⟩
  have hne : b ≠ g := by
    rintro rfl
    obtain ⟨c, hc1, hc2⟩ := hg
    simp [World.cell?, hc1] at hc
    exact hc2 _ _ hc
  rw [World.cell?_setCell_far _ _ _ _ (fun h => hne h.symm), World.cell?_setCell_far _ _ _ _ (fun h => hne h.symm), World.cell?_setCell_far _ _ _ _ (fun h => hne h.symm)]
  exact hc

def plusQ (x y : Bool × Int × Int) : Bool × Int × Int :=
  if x.1 = y.1 then (x.1, x.2.1 * y.2.2 + y.2.1 * x.2.2, x.2.2 * y.2.2)
  else if y.2.1 * x.2.2 ≤ x.2.1 * y.2.2 then (x.1, x.2.1 * y.2.2 - y.2.1 * x.2.2, x.2.2 * y.2.2)
  else (y.1, y.2.1 * x.2.2 - x.2.1 * y.2.2, x.2.2 * y.2.2)

theorem cmpI_ge {V U : Int} : (0 ≤ cmpI V U) ↔ U ≤ V := by unfold cmpI; split <;> (try split) <;> omega

set_option maxRecDepth 100000 in
set_option maxHeartbeats 2000000 in
theorem rplus_c (w : World) (v u : Value) (L K : Nat) (s t : Bool) (N D M E : Int) (h : RatQ w v L s N D) (k : RatQ w u K t M E) (hL : L ≤ 100) (hK : K ≤ 100) :
    Calls Tryz.prog 24 #[v, u] w fun e w' => ∃ x, e = .returned x ∧ RatQ w' x (L + K + 1) (plusQ (s, N, D) (t, M, E)).1 (plusQ (s, N, D) (t, M, E)).2.1 (plusQ (s, N, D) (t, M, E)).2.2 ∧ Below w.heap.size w w' := by
  obtain ⟨na, nn, nc, da, dn, dc, rfl, hN, hD⟩ := h
  obtain ⟨ma, mn, mc, ea, en, ec, rfl, hM, hE⟩ := k
  obtain ⟨s0, hs⟩ : ∃ s, s = w.heap.size := ⟨_, rfl⟩
  obtain ⟨wa, hwa⟩ : ∃ wa, wa = ((w.alloc (.cells #[.bool s, .slice na nn nc, .slice da dn dc] 37)).alloc (.cells #[.bool t, .slice ma mn mc, .slice ea en ec] 37)).alloc (.cells #[.bool false, .slice none 0 0, .slice none 0 0] 37) := ⟨_, rfl⟩
  have hba : Below w.heap.size w wa := by rw [hwa]; exact (((Below.refl _ _).alloc (Nat.le_refl _) _).alloc (by simp) _).alloc (by simp; omega) _
  have q0 : wa.heap[s0 + 2]? = some (.cells #[.bool false, .slice none 0 0, .slice none 0 0] 37 (0, 0)) := by
    have := World.alloc_heap_new ((w.alloc (.cells #[.bool s, .slice na nn nc, .slice da dn dc] 37)).alloc (.cells #[.bool t, .slice ma mn mc, .slice ea en ec] 37)) (.cells #[.bool false, .slice none 0 0, .slice none 0 0] 37)
    rw [hwa, hs]
    simpa using this
  have hs1 : s0 + 2 < wa.heap.size := (Array.getElem?_eq_some_iff.1 q0).1
  have hc : ∀ o v, (#[Value.bool s, .slice na nn nc, .slice da dn dc] : Array Value)[o]? = some v → wa.cell? ⟨s0, o, none⟩ = some v := fun o v h => by
    rw [hwa, hs, World.cell?_alloc_past _ _ _ (by simp; omega), World.cell?_alloc_past _ _ _ (by simp), World.cell?_alloc_at _ _ _ _ rfl]; exact h
  have hc2 : ∀ o v, (#[Value.bool t, .slice ma mn mc, .slice ea en ec] : Array Value)[o]? = some v → wa.cell? ⟨s0 + 1, o, none⟩ = some v := fun o v h => by
    rw [hwa, hs, World.cell?_alloc_past _ _ _ (by simp), World.cell?_alloc_at _ _ _ _ (by simp)]; exact h
  have HS := hid (fun (Y : World) (hY : Below wa.heap.size wa Y) => show Y.cell? ⟨s0, 0, none⟩ = some (.bool s) ∧ Y.cell? ⟨s0, 1, none⟩ = some (.slice na nn nc) ∧ Y.cell? ⟨s0, 2, none⟩ = some (.slice da dn dc) ∧ Y.cell? ⟨s0 + 1, 0, none⟩ = some (.bool t) ∧ Y.cell? ⟨s0 + 1, 1, none⟩ = some (.slice ma mn mc) ∧ Y.cell? ⟨s0 + 1, 2, none⟩ = some (.slice ea en ec) from by
    have k0 : ∀ o, Y.cell? ⟨s0, o, none⟩ = wa.cell? ⟨s0, o, none⟩ := fun o => hY.cell (p := ⟨s0, o, none⟩) (by show s0 < _; omega)
    have k1 : ∀ o, Y.cell? ⟨s0 + 1, o, none⟩ = wa.cell? ⟨s0 + 1, o, none⟩ := fun o => hY.cell (p := ⟨s0 + 1, o, none⟩) (by show s0 + 1 < _; omega)
    exact ⟨(k0 0).trans (hc 0 _ rfl), (k0 1).trans (hc 1 _ rfl), (k0 2).trans (hc 2 _ rfl), (k1 0).trans (hc2 0 _ rfl), (k1 1).trans (hc2 1 _ rfl), (k1 2).trans (hc2 2 _ rfl)⟩)
  have HR := hid (fun (Y : World) (hY : Below wa.heap.size wa Y) => show Y.cell? ⟨s0 + 2, 0, none⟩ = some (.bool false) ∧ Y.cell? ⟨s0 + 2, 1, none⟩ = some (.slice none 0 0) ∧ Y.cell? ⟨s0 + 2, 2, none⟩ = some (.slice none 0 0) ∧ (∀ o, Y.frozen? ⟨s0 + 2, o, none⟩ = false) ∧ s0 + 2 < Y.heap.size from by
    have h1 := (hY.block (s0 + 2) hs1).trans q0
    exact ⟨by simp [World.cell?, h1], by simp [World.cell?, h1], by simp [World.cell?, h1], fun o => by simp [World.frozen?, h1], (Array.getElem?_eq_some_iff.1 h1).1⟩)
  have HFIN := hid (fun (Y : World) (hY : Below wa.heap.size wa Y) (x y z : Value) => show Below w.heap.size w (((Y.setCell ⟨s0 + 2, 0, none⟩ x).setCell ⟨s0 + 2, 1, none⟩ y).setCell ⟨s0 + 2, 2, none⟩ z) from
    below_set (below_set (below_set (chain hba hY) (by omega) 0 x) (by omega) 1 y) (by omega) 2 z)
  have HNN := hid (fun (Y : World) (hY : Below wa.heap.size wa Y) => And.intro (hN.below (chain hba hY)) (And.intro (hD.below (chain hba hY)) (And.intro (hM.below (chain hba hY)) (hE.below (chain hba hY)))))
  have HNG := hid (fun (Y : World) (hY : Below wa.heap.size wa Y) => show ∃ c, Y.heap[s0 + 2]? = some (.cells c 37 (0, 0)) ∧ ∀ x : Int, ∀ o : Nat, c[o]? ≠ some (.int .i64 x) from
    ⟨_, (hY.block (s0 + 2) hs1).trans q0, fun x o => by match o with | 0 => simp | 1 => simp | 2 => simp | o + 3 => simp⟩)
  clear hba q0 hs1 hc hc2 hN hD hM hE
  go_enter Tryz.func24, Tryz.ntmps24
  go_wp2_with fail
  rw [← hs, ← hwa]
  clear hs hwa
  refine plain_region (fun j' X => wAll j' = true → X.cell? ⟨s0, 0, none⟩ = some (.bool s) ∧ X.cell? ⟨s0, 1, none⟩ = some (.slice na nn nc) ∧ X.cell? ⟨s0, 2, none⟩ = some (.slice da dn dc) ∧ X.cell? ⟨s0 + 1, 0, none⟩ = some (.bool t) ∧ X.cell? ⟨s0 + 1, 1, none⟩ = some (.slice ma mn mc) ∧ X.cell? ⟨s0 + 1, 2, none⟩ = some (.slice ea en ec)) (by kernel_rfl) ?_
  have hbd : Below wa.heap.size wa wa.drew := (Below.refl _ _).drew
  generalize wa.drew = wd at hbd ⊢
  refine AnyT.takeD (i := 0) (v := .pointer (some ⟨s0, 1, none⟩)) rfl rfl (by kernel_rfl) (by kernel_rfl) (by kernel_rfl) (by first | exact (fun _ _ _ h => h) | exact (fun _ _ _ h => absurd h.1 (by simp))) (by kernel_rfl) (by rfl) (by rintro w' ⟨y1, y2, y3, y4, y5, y6⟩; go_simp) (HS.out _ hbd) ?_; go_frame
  refine AnyT.takeD (i := 1) (v := .slice na nn nc) rfl rfl (by kernel_rfl) (by kernel_rfl) (by kernel_rfl) (by first | exact (fun _ _ _ h => h) | exact (fun _ _ _ h => absurd h.1 (by simp))) (by kernel_rfl) (by rfl) (by rintro w' ⟨y1, y2, y3, y4, y5, y6⟩; go_simp) (HS.out _ hbd) ?_; go_frame
  refine AnyT.takeD (i := 2) (v := .pointer (some ⟨s0 + 1, 2, none⟩)) rfl rfl (by kernel_rfl) (by kernel_rfl) (by kernel_rfl) (by first | exact (fun _ _ _ h => h) | exact (fun _ _ _ h => absurd h.1 (by simp))) (by kernel_rfl) (by rfl) (by rintro w' ⟨y1, y2, y3, y4, y5, y6⟩; go_simp) (HS.out _ hbd) ?_; go_frame
  refine AnyT.takeD (i := 3) (v := .slice ea en ec) rfl rfl (by kernel_rfl) (by kernel_rfl) (by kernel_rfl) (by first | exact (fun _ _ _ h => h) | exact (fun _ _ _ h => absurd h.1 (by simp))) (by kernel_rfl) (by rfl) (by rintro w' ⟨y1, y2, y3, y4, y5, y6⟩; go_simp) (HS.out _ hbd) ?_; go_frame
  refine AnyT.takeD (i := 5) (v := .pointer (some ⟨s0 + 1, 1, none⟩)) rfl rfl (by kernel_rfl) (by kernel_rfl) (by kernel_rfl) (by first | exact (fun _ _ _ h => h) | exact (fun _ _ _ h => absurd h.1 (by simp))) (by kernel_rfl) (by rfl) (by rintro w' ⟨y1, y2, y3, y4, y5, y6⟩; go_simp) (HS.out _ hbd) ?_; go_frame
  refine AnyT.takeD (i := 6) (v := .slice ma mn mc) rfl rfl (by kernel_rfl) (by kernel_rfl) (by kernel_rfl) (by first | exact (fun _ _ _ h => h) | exact (fun _ _ _ h => absurd h.1 (by simp))) (by kernel_rfl) (by rfl) (by rintro w' ⟨y1, y2, y3, y4, y5, y6⟩; go_simp) (HS.out _ hbd) ?_; go_frame
  refine AnyT.takeD (i := 7) (v := .pointer (some ⟨s0, 2, none⟩)) rfl rfl (by kernel_rfl) (by kernel_rfl) (by kernel_rfl) (by first | exact (fun _ _ _ h => h) | exact (fun _ _ _ h => absurd h.1 (by simp))) (by kernel_rfl) (by rfl) (by rintro w' ⟨y1, y2, y3, y4, y5, y6⟩; go_simp) (HS.out _ hbd) ?_; go_frame
  refine AnyT.takeD (i := 8) (v := .slice da dn dc) rfl rfl (by kernel_rfl) (by kernel_rfl) (by kernel_rfl) (by first | exact (fun _ _ _ h => h) | exact (fun _ _ _ h => absurd h.1 (by simp))) (by kernel_rfl) (by rfl) (by rintro w' ⟨y1, y2, y3, y4, y5, y6⟩; go_simp) (HS.out _ hbd) ?_; go_frame
  refine AnyT.takeD (i := 10) (v := .pointer (some ⟨s0, 2, none⟩)) rfl rfl (by kernel_rfl) (by kernel_rfl) (by kernel_rfl) (by first | exact (fun _ _ _ h => h) | exact (fun _ _ _ h => absurd h.1 (by simp))) (by kernel_rfl) (by rfl) (by rintro w' ⟨y1, y2, y3, y4, y5, y6⟩; go_simp) (HS.out _ hbd) ?_; go_frame
  refine AnyT.takeD (i := 11) (v := .slice da dn dc) rfl rfl (by kernel_rfl) (by kernel_rfl) (by kernel_rfl) (by first | exact (fun _ _ _ h => h) | exact (fun _ _ _ h => absurd h.1 (by simp))) (by kernel_rfl) (by rfl) (by rintro w' ⟨y1, y2, y3, y4, y5, y6⟩; go_simp) (HS.out _ hbd) ?_; go_frame
  refine AnyT.takeD (i := 12) (v := .pointer (some ⟨s0 + 1, 2, none⟩)) rfl rfl (by kernel_rfl) (by kernel_rfl) (by kernel_rfl) (by first | exact (fun _ _ _ h => h) | exact (fun _ _ _ h => absurd h.1 (by simp))) (by kernel_rfl) (by rfl) (by rintro w' ⟨y1, y2, y3, y4, y5, y6⟩; go_simp) (HS.out _ hbd) ?_; go_frame
  refine AnyT.takeD (i := 13) (v := .slice ea en ec) rfl rfl (by kernel_rfl) (by kernel_rfl) (by kernel_rfl) (by first | exact (fun _ _ _ h => h) | exact (fun _ _ _ h => absurd h.1 (by simp))) (by kernel_rfl) (by rfl) (by rintro w' ⟨y1, y2, y3, y4, y5, y6⟩; go_simp) (HS.out _ hbd) ?_; go_frame
  refine AnyT.next (i := 4) (by kernel_rfl) rfl (wpOp_of_list rfl ?_)
  go_wp2_with (go_at_call 75; refine (ntimes_c _ _ _ L K _ _ (HNN.out _ hbd).1 (HNN.out _ hbd).2.2.2 (by omega) (by omega)).mono ?_; rintro e w1 ⟨vw1, rfl, hvw1, hbw1⟩; refine Stop.of ?_)
  refine Stop.go ?_
  obtain ⟨aw1, nw1, cw1, rfl⟩ := hvw1.slice
  have HVw1 := hid hvw1
  have HB1 := hid (chain hbd hbw1)
  have HBXw1 := hid hbw1
  clear hvw1 hbw1
  go_wp2
  refine ⟨fun _ => HS.out _ HB1.out, ?_⟩
  refine AnyT.next (i := 9) (by kernel_rfl) rfl (wpOp_of_list rfl ?_)
  go_wp2_with (go_at_call 75; refine (ntimes_c _ _ _ K L _ _ (HNN.out _ HB1.out).2.2.1 (HNN.out _ HB1.out).2.1 (by omega) (by omega)).mono ?_; rintro e w2 ⟨vw2, rfl, hvw2, hbw2⟩; refine Stop.of ?_)
  refine Stop.go ?_
  obtain ⟨aw2, nw2, cw2, rfl⟩ := hvw2.slice
  have HVw2 := hid hvw2
  have HB2 := hid (chain HB1.out hbw2)
  have HBXw2 := hid hbw2
  clear hvw2 hbw2
  go_wp2
  refine ⟨fun _ => HS.out _ HB2.out, ?_⟩
  refine AnyT.next (i := 14) (by kernel_rfl) rfl (wpOp_of_list rfl ?_)
  go_wp2_with (go_at_call 75; refine (ntimes_c _ _ _ L K _ _ (HNN.out _ HB2.out).2.1 (HNN.out _ HB2.out).2.2.2 (by omega) (by omega)).mono ?_; rintro e w3 ⟨vw3, rfl, hvw3, hbw3⟩; refine Stop.of ?_)
  refine Stop.go ?_
  obtain ⟨aw3, nw3, cw3, rfl⟩ := hvw3.slice
  have HVw3 := hid hvw3
  have HB3 := hid (chain HB2.out hbw3)
  have HBXw3 := hid hbw3
  clear hvw3 hbw3
  go_wp2
  refine ⟨fun _ => HS.out _ HB3.out, ?_⟩
  refine AnyT.takeD (i := 15) (v := .slice aw1 nw1 cw1) rfl rfl (by kernel_rfl) (by kernel_rfl) (by kernel_rfl) (by first | exact (fun _ _ _ h => h) | exact (fun _ _ _ h => absurd h.1 (by simp))) (by kernel_rfl) (by rfl) (by rintro w' ⟨y1, y2, y3, y4, y5, y6⟩; go_simp) (HS.out _ HB3.out) ?_; go_frame
  refine AnyT.takeD (i := 16) (v := .slice aw2 nw2 cw2) rfl rfl (by kernel_rfl) (by kernel_rfl) (by kernel_rfl) (by first | exact (fun _ _ _ h => h) | exact (fun _ _ _ h => absurd h.1 (by simp))) (by kernel_rfl) (by rfl) (by rintro w' ⟨y1, y2, y3, y4, y5, y6⟩; go_simp) (HS.out _ HB3.out) ?_; go_frame
  refine AnyT.takeD (i := 17) (v := .slice aw3 nw3 cw3) rfl rfl (by kernel_rfl) (by kernel_rfl) (by kernel_rfl) (by first | exact (fun _ _ _ h => h) | exact (fun _ _ _ h => absurd h.1 (by simp))) (by kernel_rfl) (by rfl) (by rintro w' ⟨y1, y2, y3, y4, y5, y6⟩; go_simp) (HS.out _ HB3.out) ?_; go_frame
  refine AnyT.done (by kernel_rfl) ?_ _
  have HNE := hid ((HVw1.out.below HBXw2.out).below HBXw3.out)
  have HMD := hid (((HVw2.out.below HBXw3.out)).le (show K + L ≤ L + K by omega))
  have HDE := hid HVw3.out
  obtain ⟨y1, y2, y3, y4, y5, y6⟩ := HS.out _ HB3.out
  clear HVw1 HVw2 HVw3 HBXw2 HBXw1 HBXw3 HB1 HB2 hbd
  have HB := hid HB3.out
  clear HB3 y1 y2 y3 y4 y5 y6
  by_cases hst : s = t
  · subst hst
    have HQ := hid (show plusQ (s, N, D) (s, M, E) = (s, N * E + M * D, D * E) from if_pos rfl)
    have hsb : (s == s) = true := by simp
    obtain ⟨y1, y2, y3, y4, y5, y6⟩ := HS.out _ HB.out
    go_wp2
    refine plain_region (fun j' X => decide (j' ≤ 6) = true → X.cell? ⟨s0, 0, none⟩ = some (.bool s)) (by kernel_rfl) ?_
    obtain ⟨wq, hwq⟩ : ∃ wq, wq = w3.drew := ⟨_, rfl⟩
    have hbq : Below wa.heap.size wa wq := by rw [hwq]; exact HB.out.drew
    have hb0 : Below w3.heap.size w3 wq := by rw [hwq]; exact (Below.refl _ _).drew
    rw [← hwq]
    clear hwq
    refine AnyT.takeD (i := 0) (v := .pointer (some ⟨s0, 0, none⟩)) rfl rfl (by kernel_rfl) (by kernel_rfl) (by kernel_rfl) (by first | exact (fun _ _ _ h => h) | exact (fun _ _ _ h => absurd h.1 (by simp))) (by kernel_rfl) (by rfl) (by rintro w' y1; go_simp) ((HS.out _ hbq).1) ?_; go_frame
    refine AnyT.takeD (i := 1) (v := .bool s) rfl rfl (by kernel_rfl) (by kernel_rfl) (by kernel_rfl) (by first | exact (fun _ _ _ h => h) | exact (fun _ _ _ h => absurd h.1 (by simp))) (by kernel_rfl) (by rfl) (by rintro w' y1; go_simp) ((HS.out _ hbq).1) ?_; go_frame
    refine AnyT.takeD (i := 2) (v := .slice aw1 nw1 cw1) rfl rfl (by kernel_rfl) (by kernel_rfl) (by kernel_rfl) (by first | exact (fun _ _ _ h => h) | exact (fun _ _ _ h => absurd h.1 (by simp))) (by kernel_rfl) (by rfl) (by rintro w' y1; go_simp) ((HS.out _ hbq).1) ?_; go_frame
    refine AnyT.takeD (i := 3) (v := .slice aw2 nw2 cw2) rfl rfl (by kernel_rfl) (by kernel_rfl) (by kernel_rfl) (by first | exact (fun _ _ _ h => h) | exact (fun _ _ _ h => absurd h.1 (by simp))) (by kernel_rfl) (by rfl) (by rintro w' y1; go_simp) ((HS.out _ hbq).1) ?_; go_frame
    refine AnyT.takeD (i := 5) (v := .slice aw3 nw3 cw3) rfl rfl (by kernel_rfl) (by kernel_rfl) (by kernel_rfl) (by first | exact (fun _ _ _ h => h) | exact (fun _ _ _ h => absurd h.1 (by simp))) (by kernel_rfl) (by rfl) (by rintro w' y1; go_simp) ((HS.out _ hbq).1) ?_; go_frame
    refine AnyT.next (i := 4) (by kernel_rfl) rfl (wpOp_of_list rfl ?_)
    go_wp2_with (go_at_call 76; refine (plus_c _ _ _ (L + K) (L + K) _ _ (HNE.out.below hb0) (HMD.out.below hb0) (by omega) (by omega)).mono ?_; rintro e w5 ⟨v5, rfl, hv5, hb5⟩; refine Stop.of ?_)
    refine Stop.go ?_
    obtain ⟨a5, n5, c5, rfl⟩ := hv5.slice
    have HV5 := hid hv5
    have HB5 := hid (chain hbq hb5)
    have HDE5 := hid ((HDE.out.below hb0).below hb5)
    obtain ⟨x0, x1, x2, hfz, hlt⟩ := HR.out _ HB5.out
    have f0 := hfz 0
    have f1 := hfz 1
    have f2 := hfz 2
    have HFI := hid (HFIN.out _ HB5.out (.bool s) (.slice a5 n5 c5) (.slice aw3 nw3 cw3))
    have HKN := hid (hv5.keeps3 (g := s0 + 2) (u := .bool s) (v := .slice a5 n5 c5) (z := .slice aw3 nw3 cw3) (HNG.out _ HB5.out))
    have HKD := hid (HDE5.out.keeps3 (g := s0 + 2) (u := .bool s) (v := .slice a5 n5 c5) (z := .slice aw3 nw3 cw3) (HNG.out _ HB5.out))
    clear hv5 hb5 hfz hb0
    go_wp2
    refine ⟨fun _ => (HS.out _ HB5.out).1, ?_⟩
    refine AnyT.takeD (i := 6) (v := .agg #[.bool s, .slice a5 n5 c5, .slice aw3 nw3 cw3]) rfl rfl (by kernel_rfl) (by kernel_rfl) (by kernel_rfl) (by first | exact (fun _ _ _ h => h) | exact (fun _ _ _ h => absurd h.1 (by simp))) (by kernel_rfl) (by rfl) (by rintro w' y1; go_simp) ((HS.out _ HB5.out).1) ?_; go_frame
    refine AnyT.next (i := 7) (by kernel_rfl) rfl (wpOp_of_list rfl ?_)
    go_wp2
    refine ⟨fun h => absurd h (by decide), ?_⟩
    refine AnyT.done (by kernel_rfl) ?_ _
    go_wp2
    refine bodyPost_ret (v := .agg #[.bool s, .slice a5 n5 c5, .slice aw3 nw3 cw3]) ?_ rfl ⟨_, rfl, ?_, HFI.out⟩
    · simp [results, Tryz.results24, go_sem, x0, x1, x2, f0, f1, f2, hlt]
    · rw [HQ.out]; exact ⟨_, _, _, _, _, _, rfl, HKN.out.le (by omega), HKD.out.le (by omega)⟩
  · have hsb : (s == t) = false := by simpa using hst
    have HOR := hid (order_c w3 _ _ (L + K) (L + K) _ _ HNE.out HMD.out (by omega) (by omega))
    obtain ⟨y1, y2, y3, y4, y5, y6⟩ := HS.out _ HB.out
    obtain ⟨cv, hcv⟩ : ∃ c, c = cmpI (N * E) (M * D) := ⟨_, rfl⟩
    rw [← hcv] at HOR
    have hge : 0 ≤ cv ↔ M * D ≤ N * E := by rw [hcv]; exact cmpI_ge
    have HGE := hid hge
    have HST := hid hst
    clear hcv hge hst
    go_wp2_with (go_at_call 77; refine HOR.out.mono ?_; rintro e w4 ⟨rfl, hb4⟩; refine Stop.of ?_)
    refine Stop.go ?_
    have HNE4 := hid (HNE.out.below hb4)
    have HMD4 := hid (HMD.out.below hb4)
    have HDE4 := hid (HDE.out.below hb4)
    have HB4 := hid (chain HB.out hb4)
    clear HNE HMD HDE HB HOR hb4
    have HB := HB4
    have HDE := HDE4
    clear HB4 HDE4
    obtain ⟨y1, y2, y3, y4, y5, y6⟩ := HS.out _ HB.out
    by_cases hcc : 0 ≤ cv
    · have hle := HGE.out.1 hcc
      have HQ := hid (show plusQ (s, N, D) (t, M, E) = (s, N * E - M * D, D * E) from by unfold plusQ; rw [if_neg HST.out, if_pos hle])
      have HLE := hid hle
      clear hle
      go_wp2
      refine plain_region (fun j' X => decide (j' ≤ 6) = true → X.cell? ⟨s0, 0, none⟩ = some (.bool s)) (by kernel_rfl) ?_
      obtain ⟨wq, hwq⟩ : ∃ wq, wq = w4.drew := ⟨_, rfl⟩
      have hbq : Below wa.heap.size wa wq := by rw [hwq]; exact HB.out.drew
      have hb0 : Below w4.heap.size w4 wq := by rw [hwq]; exact (Below.refl _ _).drew
      rw [← hwq]
      clear hwq
      refine AnyT.takeD (i := 0) (v := .pointer (some ⟨s0, 0, none⟩)) rfl rfl (by kernel_rfl) (by kernel_rfl) (by kernel_rfl) (by first | exact (fun _ _ _ h => h) | exact (fun _ _ _ h => absurd h.1 (by simp))) (by kernel_rfl) (by rfl) (by rintro w' y1; go_simp) ((HS.out _ hbq).1) ?_; go_frame
      refine AnyT.takeD (i := 1) (v := .bool s) rfl rfl (by kernel_rfl) (by kernel_rfl) (by kernel_rfl) (by first | exact (fun _ _ _ h => h) | exact (fun _ _ _ h => absurd h.1 (by simp))) (by kernel_rfl) (by rfl) (by rintro w' y1; go_simp) ((HS.out _ hbq).1) ?_; go_frame
      refine AnyT.takeD (i := 2) (v := .slice aw1 nw1 cw1) rfl rfl (by kernel_rfl) (by kernel_rfl) (by kernel_rfl) (by first | exact (fun _ _ _ h => h) | exact (fun _ _ _ h => absurd h.1 (by simp))) (by kernel_rfl) (by rfl) (by rintro w' y1; go_simp) ((HS.out _ hbq).1) ?_; go_frame
      refine AnyT.takeD (i := 3) (v := .slice aw2 nw2 cw2) rfl rfl (by kernel_rfl) (by kernel_rfl) (by kernel_rfl) (by first | exact (fun _ _ _ h => h) | exact (fun _ _ _ h => absurd h.1 (by simp))) (by kernel_rfl) (by rfl) (by rintro w' y1; go_simp) ((HS.out _ hbq).1) ?_; go_frame
      refine AnyT.takeD (i := 5) (v := .slice aw3 nw3 cw3) rfl rfl (by kernel_rfl) (by kernel_rfl) (by kernel_rfl) (by first | exact (fun _ _ _ h => h) | exact (fun _ _ _ h => absurd h.1 (by simp))) (by kernel_rfl) (by rfl) (by rintro w' y1; go_simp) ((HS.out _ hbq).1) ?_; go_frame
      refine AnyT.next (i := 4) (by kernel_rfl) rfl (wpOp_of_list rfl ?_)
      go_wp2_with (go_at_call 78; refine (minus_c _ _ _ (L + K) (L + K) _ _ (HNE4.out.below hb0) (HMD4.out.below hb0) (by omega) (by omega) HLE.out).mono ?_; rintro e w5 ⟨v5, rfl, hv5, hb5⟩; refine Stop.of ?_)
      refine Stop.go ?_
      obtain ⟨a5, n5, c5, rfl⟩ := hv5.slice
      have HV5 := hid hv5
      have HB5 := hid (chain hbq hb5)
      have HDE5 := hid ((HDE.out.below hb0).below hb5)
      obtain ⟨x0, x1, x2, hfz, hlt⟩ := HR.out _ HB5.out
      have f0 := hfz 0
      have f1 := hfz 1
      have f2 := hfz 2
      have HFI := hid (HFIN.out _ HB5.out (.bool s) (.slice a5 n5 c5) (.slice aw3 nw3 cw3))
      have HKN := hid (hv5.keeps3 (g := s0 + 2) (u := .bool s) (v := .slice a5 n5 c5) (z := .slice aw3 nw3 cw3) (HNG.out _ HB5.out))
      have HKD := hid (HDE5.out.keeps3 (g := s0 + 2) (u := .bool s) (v := .slice a5 n5 c5) (z := .slice aw3 nw3 cw3) (HNG.out _ HB5.out))
      clear hv5 hb5 hfz hb0
      go_wp2
      refine ⟨fun _ => (HS.out _ HB5.out).1, ?_⟩
      refine AnyT.takeD (i := 6) (v := .agg #[.bool s, .slice a5 n5 c5, .slice aw3 nw3 cw3]) rfl rfl (by kernel_rfl) (by kernel_rfl) (by kernel_rfl) (by first | exact (fun _ _ _ h => h) | exact (fun _ _ _ h => absurd h.1 (by simp))) (by kernel_rfl) (by rfl) (by rintro w' y1; go_simp) ((HS.out _ HB5.out).1) ?_; go_frame
      refine AnyT.next (i := 7) (by kernel_rfl) rfl (wpOp_of_list rfl ?_)
      go_wp2
      refine ⟨fun h => absurd h (by decide), ?_⟩
      refine AnyT.done (by kernel_rfl) ?_ _
      go_wp2
      refine bodyPost_ret (v := .agg #[.bool s, .slice a5 n5 c5, .slice aw3 nw3 cw3]) ?_ rfl ⟨_, rfl, ?_, HFI.out⟩
      · simp [results, Tryz.results24, go_sem, x0, x1, x2, f0, f1, f2, hlt]
      · rw [HQ.out]; exact ⟨_, _, _, _, _, _, rfl, HKN.out.le (by omega), HKD.out.le (by omega)⟩
    · have hle : ¬ M * D ≤ N * E := fun h => hcc (HGE.out.2 h)
      have HQ := hid (show plusQ (s, N, D) (t, M, E) = (t, M * D - N * E, D * E) from by unfold plusQ; rw [if_neg HST.out, if_neg hle])
      have HLE := hid hle
      clear hle
      go_wp2
      refine plain_region (fun j' X => decide (j' ≤ 6) = true → X.cell? ⟨s0 + 1, 0, none⟩ = some (.bool t)) (by kernel_rfl) ?_
      obtain ⟨wq, hwq⟩ : ∃ wq, wq = w4.drew := ⟨_, rfl⟩
      have hbq : Below wa.heap.size wa wq := by rw [hwq]; exact HB.out.drew
      have hb0 : Below w4.heap.size w4 wq := by rw [hwq]; exact (Below.refl _ _).drew
      rw [← hwq]
      clear hwq
      refine AnyT.takeD (i := 0) (v := .pointer (some ⟨s0 + 1, 0, none⟩)) rfl rfl (by kernel_rfl) (by kernel_rfl) (by kernel_rfl) (by first | exact (fun _ _ _ h => h) | exact (fun _ _ _ h => absurd h.1 (by simp))) (by kernel_rfl) (by rfl) (by rintro w' y1; go_simp) ((HS.out _ hbq).2.2.2.1) ?_; go_frame
      refine AnyT.takeD (i := 1) (v := .bool t) rfl rfl (by kernel_rfl) (by kernel_rfl) (by kernel_rfl) (by first | exact (fun _ _ _ h => h) | exact (fun _ _ _ h => absurd h.1 (by simp))) (by kernel_rfl) (by rfl) (by rintro w' y1; go_simp) ((HS.out _ hbq).2.2.2.1) ?_; go_frame
      refine AnyT.takeD (i := 2) (v := .slice aw2 nw2 cw2) rfl rfl (by kernel_rfl) (by kernel_rfl) (by kernel_rfl) (by first | exact (fun _ _ _ h => h) | exact (fun _ _ _ h => absurd h.1 (by simp))) (by kernel_rfl) (by rfl) (by rintro w' y1; go_simp) ((HS.out _ hbq).2.2.2.1) ?_; go_frame
      refine AnyT.takeD (i := 3) (v := .slice aw1 nw1 cw1) rfl rfl (by kernel_rfl) (by kernel_rfl) (by kernel_rfl) (by first | exact (fun _ _ _ h => h) | exact (fun _ _ _ h => absurd h.1 (by simp))) (by kernel_rfl) (by rfl) (by rintro w' y1; go_simp) ((HS.out _ hbq).2.2.2.1) ?_; go_frame
      refine AnyT.takeD (i := 5) (v := .slice aw3 nw3 cw3) rfl rfl (by kernel_rfl) (by kernel_rfl) (by kernel_rfl) (by first | exact (fun _ _ _ h => h) | exact (fun _ _ _ h => absurd h.1 (by simp))) (by kernel_rfl) (by rfl) (by rintro w' y1; go_simp) ((HS.out _ hbq).2.2.2.1) ?_; go_frame
      refine AnyT.next (i := 4) (by kernel_rfl) rfl (wpOp_of_list rfl ?_)
      go_wp2_with (go_at_call 78; refine (minus_c _ _ _ (L + K) (L + K) _ _ (HMD4.out.below hb0) (HNE4.out.below hb0) (by omega) (by omega) (by have := HLE.out; omega)).mono ?_; rintro e w5 ⟨v5, rfl, hv5, hb5⟩; refine Stop.of ?_)
      refine Stop.go ?_
      obtain ⟨a5, n5, c5, rfl⟩ := hv5.slice
      have HV5 := hid hv5
      have HB5 := hid (chain hbq hb5)
      have HDE5 := hid ((HDE.out.below hb0).below hb5)
      obtain ⟨x0, x1, x2, hfz, hlt⟩ := HR.out _ HB5.out
      have f0 := hfz 0
      have f1 := hfz 1
      have f2 := hfz 2
      have HFI := hid (HFIN.out _ HB5.out (.bool t) (.slice a5 n5 c5) (.slice aw3 nw3 cw3))
      have HKN := hid (hv5.keeps3 (g := s0 + 2) (u := .bool t) (v := .slice a5 n5 c5) (z := .slice aw3 nw3 cw3) (HNG.out _ HB5.out))
      have HKD := hid (HDE5.out.keeps3 (g := s0 + 2) (u := .bool t) (v := .slice a5 n5 c5) (z := .slice aw3 nw3 cw3) (HNG.out _ HB5.out))
      clear hv5 hb5 hfz hb0
      go_wp2
      refine ⟨fun _ => (HS.out _ HB5.out).2.2.2.1, ?_⟩
      refine AnyT.takeD (i := 6) (v := .agg #[.bool t, .slice a5 n5 c5, .slice aw3 nw3 cw3]) rfl rfl (by kernel_rfl) (by kernel_rfl) (by kernel_rfl) (by first | exact (fun _ _ _ h => h) | exact (fun _ _ _ h => absurd h.1 (by simp))) (by kernel_rfl) (by rfl) (by rintro w' y1; go_simp) ((HS.out _ HB5.out).2.2.2.1) ?_; go_frame
      refine AnyT.next (i := 7) (by kernel_rfl) rfl (wpOp_of_list rfl ?_)
      go_wp2
      refine ⟨fun h => absurd h (by decide), ?_⟩
      refine AnyT.done (by kernel_rfl) ?_ _
      go_wp2
      refine bodyPost_ret (v := .agg #[.bool t, .slice a5 n5 c5, .slice aw3 nw3 cw3]) ?_ rfl ⟨_, rfl, ?_, HFI.out⟩
      · simp [results, Tryz.results24, go_sem, x0, x1, x2, f0, f1, f2, hlt]
      · rw [HQ.out]; exact ⟨_, _, _, _, _, _, rfl, HKN.out.le (by omega), HKD.out.le (by omega)⟩
end Go.Proofs.YtlffndehhhpgjaaGreat

namespace Go.Proofs.YtlffndehhhpgjaaGreat
open Go.RowKit
set_option linter.unusedVariables false
set_option linter.unusedSimpArgs false

set_option maxRecDepth 100000 in
set_option maxHeartbeats 2000000 in
theorem exact_c (w : World) (N D : Int) (hN : -4611686018427387904 ≤ N ∧ N ≤ 4611686018427387904) (hD : 0 ≤ D ∧ D ≤ 4611686018427387904) :
    Calls Tryz.prog 22 #[.agg #[.int .i64 N, .int .i64 D]] w fun e w' => ∃ x, e = .returned x ∧ RatQ w' x 3 (decide (N < 0)) (N.natAbs : Nat) D ∧ Below w.heap.size w w' := by
  obtain ⟨s0, hs⟩ : ∃ s, s = w.heap.size := ⟨_, rfl⟩
  obtain ⟨wa, hwa⟩ : ∃ wa, wa = (w.alloc (.cells #[.int .i64 N, .int .i64 D] 29)).alloc (.cells #[.bool false, .slice none 0 0, .slice none 0 0] 37) := ⟨_, rfl⟩
  have hba : Below w.heap.size w wa := by rw [hwa]; exact ((Below.refl _ _).alloc (Nat.le_refl _) _).alloc (by simp) _
  have q0 : wa.heap[s0 + 1]? = some (.cells #[.bool false, .slice none 0 0, .slice none 0 0] 37 (0, 0)) := by
    have := World.alloc_heap_new (w.alloc (.cells #[.int .i64 N, .int .i64 D] 29)) (.cells #[.bool false, .slice none 0 0, .slice none 0 0] 37)
    rw [hwa, hs]
    simpa using this
  have hs1 : s0 + 1 < wa.heap.size := (Array.getElem?_eq_some_iff.1 q0).1
  have hc : ∀ o v, (#[Value.int .i64 N, .int .i64 D] : Array Value)[o]? = some v → wa.cell? ⟨s0, o, none⟩ = some v := fun o v h => by
    rw [hwa, hs, World.cell?_alloc_past _ _ _ (by simp), World.cell?_alloc_at _ _ _ _ rfl]; exact h
  have HS := hid (fun (Y : World) (hY : Below wa.heap.size wa Y) => show Y.cell? ⟨s0, 0, none⟩ = some (.int .i64 N) ∧ Y.cell? ⟨s0, 1, none⟩ = some (.int .i64 D) from by
    have k0 : ∀ o, Y.cell? ⟨s0, o, none⟩ = wa.cell? ⟨s0, o, none⟩ := fun o => hY.cell (p := ⟨s0, o, none⟩) (by show s0 < _; omega)
    exact ⟨(k0 0).trans (hc 0 _ rfl), (k0 1).trans (hc 1 _ rfl)⟩)
  have HR := hid (fun (Y : World) (hY : Below wa.heap.size wa Y) => show Y.cell? ⟨s0 + 1, 0, none⟩ = some (.bool false) ∧ Y.cell? ⟨s0 + 1, 1, none⟩ = some (.slice none 0 0) ∧ Y.cell? ⟨s0 + 1, 2, none⟩ = some (.slice none 0 0) ∧ (∀ o, Y.frozen? ⟨s0 + 1, o, none⟩ = false) ∧ s0 + 1 < Y.heap.size from by
    have h1 := (hY.block (s0 + 1) hs1).trans q0
    exact ⟨by simp [World.cell?, h1], by simp [World.cell?, h1], by simp [World.cell?, h1], fun o => by simp [World.frozen?, h1], (Array.getElem?_eq_some_iff.1 h1).1⟩)
  have HFIN := hid (fun (Y : World) (hY : Below wa.heap.size wa Y) (x y z : Value) => show Below w.heap.size w (((Y.setCell ⟨s0 + 1, 0, none⟩ x).setCell ⟨s0 + 1, 1, none⟩ y).setCell ⟨s0 + 1, 2, none⟩ z) from
    below_set (below_set (below_set (chain hba hY) (by omega) 0 x) (by omega) 1 y) (by omega) 2 z)
  have HNG := hid (fun (Y : World) (hY : Below wa.heap.size wa Y) => show ∃ c, Y.heap[s0 + 1]? = some (.cells c 37 (0, 0)) ∧ ∀ x : Int, ∀ o : Nat, c[o]? ≠ some (.int .i64 x) from
    ⟨_, (hY.block (s0 + 1) hs1).trans q0, fun x o => by match o with | 0 => simp | 1 => simp | 2 => simp | o + 3 => simp⟩)
  obtain ⟨b, hb⟩ : ∃ b, b = decide (N < 0) := ⟨_, rfl⟩
  obtain ⟨m, hm⟩ : ∃ m : Int, m = (N.natAbs : Nat) := ⟨_, rfl⟩
  rw [← hb, ← hm]
  have hb2 := hb.symm
  have HM1 := hid (fun X => natOf_c X m (by omega) (by omega))
  have HM2 := hid (fun X => natOf_c X D hD.1 (by omega))
  have hng : IntKind.i64.wrap (-N) = -N := IntWalk.i64_in _ (by omega)
  have hmx : (if -N ≤ N then N else -N) = m := by split <;> omega
  have hmx2 : (if N ≤ -N then -N else N) = m := by split <;> omega
  have hmx3 : (if N < -N then -N else N) = m := by split <;> omega
  clear hba q0 hs1 hc hb hm
  go_enter Tryz.func22, Tryz.ntmps22
  go_wp2_with fail
  rw [← hs, ← hwa]
  clear hs hwa
  refine plain_region (fun j' X => decide (j' ≤ 13) = true → X.cell? ⟨s0, 0, none⟩ = some (.int .i64 N) ∧ X.cell? ⟨s0, 1, none⟩ = some (.int .i64 D)) (by kernel_rfl) ?_
  have hbd : Below wa.heap.size wa wa.drew := (Below.refl _ _).drew
  generalize wa.drew = wd at hbd ⊢
  refine AnyT.takeD (i := 0) (v := .pointer (some ⟨s0, 0, none⟩)) rfl rfl (by kernel_rfl) (by kernel_rfl) (by kernel_rfl) (by first | exact (fun _ _ _ h => h) | exact (fun _ _ _ h => absurd h.1 (by simp))) (by kernel_rfl) (by rfl) (by rintro w' ⟨y1, y2⟩; go_simp) (HS.out _ hbd) ?_; go_frame
  refine AnyT.takeD (i := 1) (v := .int .i64 N) rfl rfl (by kernel_rfl) (by kernel_rfl) (by kernel_rfl) (by first | exact (fun _ _ _ h => h) | exact (fun _ _ _ h => absurd h.1 (by simp))) (by kernel_rfl) (by rfl) (by rintro w' ⟨y1, y2⟩; go_simp) (HS.out _ hbd) ?_; go_frame
  refine AnyT.takeD (i := 2) (v := .bool b) rfl rfl (by kernel_rfl) (by kernel_rfl) (by kernel_rfl) (by first | exact (fun _ _ _ h => h) | exact (fun _ _ _ h => absurd h.1 (by simp))) (by kernel_rfl) (by rfl) (by rintro w' ⟨y1, y2⟩; go_simp) (HS.out _ hbd) ?_; go_frame
  refine AnyT.takeD (i := 3) (v := .pointer (some ⟨s0, 0, none⟩)) rfl rfl (by kernel_rfl) (by kernel_rfl) (by kernel_rfl) (by first | exact (fun _ _ _ h => h) | exact (fun _ _ _ h => absurd h.1 (by simp))) (by kernel_rfl) (by rfl) (by rintro w' ⟨y1, y2⟩; go_simp) (HS.out _ hbd) ?_; go_frame
  refine AnyT.takeD (i := 4) (v := .int .i64 N) rfl rfl (by kernel_rfl) (by kernel_rfl) (by kernel_rfl) (by first | exact (fun _ _ _ h => h) | exact (fun _ _ _ h => absurd h.1 (by simp))) (by kernel_rfl) (by rfl) (by rintro w' ⟨y1, y2⟩; go_simp) (HS.out _ hbd) ?_; go_frame
  refine AnyT.takeD (i := 5) (v := .pointer (some ⟨s0, 0, none⟩)) rfl rfl (by kernel_rfl) (by kernel_rfl) (by kernel_rfl) (by first | exact (fun _ _ _ h => h) | exact (fun _ _ _ h => absurd h.1 (by simp))) (by kernel_rfl) (by rfl) (by rintro w' ⟨y1, y2⟩; go_simp) (HS.out _ hbd) ?_; go_frame
  refine AnyT.takeD (i := 6) (v := .int .i64 N) rfl rfl (by kernel_rfl) (by kernel_rfl) (by kernel_rfl) (by first | exact (fun _ _ _ h => h) | exact (fun _ _ _ h => absurd h.1 (by simp))) (by kernel_rfl) (by rfl) (by rintro w' ⟨y1, y2⟩; go_simp) (HS.out _ hbd) ?_; go_frame
  refine AnyT.takeD (i := 7) (v := .int .i64 (-N)) rfl rfl (by kernel_rfl) (by kernel_rfl) (by kernel_rfl) (by first | exact (fun _ _ _ h => h) | exact (fun _ _ _ h => absurd h.1 (by simp))) (by kernel_rfl) (by rfl) (by rintro w' ⟨y1, y2⟩; go_simp) (HS.out _ hbd) ?_; go_frame
  refine AnyT.takeD (i := 10) (v := .pointer (some ⟨s0, 1, none⟩)) rfl rfl (by kernel_rfl) (by kernel_rfl) (by kernel_rfl) (by first | exact (fun _ _ _ h => h) | exact (fun _ _ _ h => absurd h.1 (by simp))) (by kernel_rfl) (by rfl) (by rintro w' ⟨y1, y2⟩; go_simp) (HS.out _ hbd) ?_; go_frame
  refine AnyT.takeD (i := 11) (v := .int .i64 D) rfl rfl (by kernel_rfl) (by kernel_rfl) (by kernel_rfl) (by first | exact (fun _ _ _ h => h) | exact (fun _ _ _ h => absurd h.1 (by simp))) (by kernel_rfl) (by rfl) (by rintro w' ⟨y1, y2⟩; go_simp) (HS.out _ hbd) ?_; go_frame
  refine AnyT.next (i := 8) (by kernel_rfl) rfl (wpOp_of_list rfl ?_)
  go_wp2
  refine ⟨fun _ => HS.out _ hbd, ?_⟩
  refine AnyT.next (i := 9) (by kernel_rfl) rfl (wpOp_of_list rfl ?_)
  go_wp2_with (go_at_call 74; refine (HM1.out _).mono ?_; rintro e w1 ⟨v1, rfl, hv1, hb1⟩; refine Stop.of ?_)
  refine Stop.go ?_
  obtain ⟨a1, n1, c1, rfl⟩ := hv1.slice
  have HV1 := hid hv1
  have HB1 := hid (chain hbd hb1)
  clear hv1 hb1 hmx hmx2 hmx3 hng
  go_wp2
  refine ⟨fun _ => HS.out _ HB1.out, ?_⟩
  refine AnyT.next (i := 12) (by kernel_rfl) rfl (wpOp_of_list rfl ?_)
  go_wp2_with (go_at_call 74; refine (HM2.out _).mono ?_; rintro e w2 ⟨v2, rfl, hv2, hb2'⟩; refine Stop.of ?_)
  refine Stop.go ?_
  obtain ⟨a2, n2, c2, rfl⟩ := hv2.slice
  have HB2 := hid (chain HB1.out hb2')
  have hv1' := HV1.out.below hb2'
  have HK1 := hid (hv1'.keeps3 (g := s0 + 1) (u := .bool b) (v := .slice a1 n1 c1) (z := .slice a2 n2 c2) (HNG.out _ HB2.out))
  have HK2 := hid (hv2.keeps3 (g := s0 + 1) (u := .bool b) (v := .slice a1 n1 c1) (z := .slice a2 n2 c2) (HNG.out _ HB2.out))
  obtain ⟨x0, x1, x2, hfz, hlt⟩ := HR.out _ HB2.out
  have f0 := hfz 0
  have f1 := hfz 1
  have f2 := hfz 2
  have HFI := hid (HFIN.out _ HB2.out (.bool b) (.slice a1 n1 c1) (.slice a2 n2 c2))
  clear hv1' hv2 hb2' hfz HV1
  go_wp2
  refine ⟨fun _ => HS.out _ HB2.out, ?_⟩
  refine AnyT.takeD (i := 13) (v := .agg #[.bool b, .slice a1 n1 c1, .slice a2 n2 c2]) rfl rfl (by kernel_rfl) (by kernel_rfl) (by kernel_rfl) (by first | exact (fun _ _ _ h => h) | exact (fun _ _ _ h => absurd h.1 (by simp))) (by kernel_rfl) (by rfl) (by rintro w' ⟨y1, y2⟩; go_simp) (HS.out _ HB2.out) ?_; go_frame
  refine AnyT.next (i := 14) (by kernel_rfl) rfl (wpOp_of_list rfl ?_)
  go_wp2
  refine ⟨fun h => absurd h (by decide), ?_⟩
  refine AnyT.done (by kernel_rfl) ?_ _
  go_wp2
  refine bodyPost_ret (v := .agg #[.bool b, .slice a1 n1 c1, .slice a2 n2 c2]) ?_ rfl ⟨_, rfl, ⟨_, _, _, _, _, _, rfl, HK1.out, HK2.out⟩, HFI.out⟩
  simp [results, Tryz.results22, go_sem, x0, x1, x2, f0, f1, f2, hlt]

end Go.Proofs.YtlffndehhhpgjaaGreat

namespace Go.Proofs.YtlffndehhhpgjaaGreat
open Go.RowKit
set_option linter.unusedVariables false
set_option linter.unusedSimpArgs false

set_option maxRecDepth 100000 in
set_option maxHeartbeats 2000000 in
theorem rtimes_c (w : World) (k : Int) (v : Value) (L : Nat) (s : Bool) (N D : Int) (hk : -4611686018427387904 ≤ k ∧ k ≤ 4611686018427387904) (h : RatQ w v L s N D) (hL : L ≤ 100) :
    Calls Tryz.prog 23 #[.int .i64 k, v] w fun e w' => ∃ x, e = .returned x ∧ RatQ w' x (3 + L) (s != decide (k < 0)) ((k.natAbs : Nat) * N) D ∧ Below w.heap.size w w' := by
  obtain ⟨na, nn, nc, da, dn, dc, rfl, hN, hD⟩ := h
  obtain ⟨s0, hs⟩ : ∃ s, s = w.heap.size := ⟨_, rfl⟩
  obtain ⟨wa, hwa⟩ : ∃ wa, wa = (w.alloc (.cells #[.bool s, .slice na nn nc, .slice da dn dc] 37)).alloc (.cells #[.bool false, .slice none 0 0, .slice none 0 0] 37) := ⟨_, rfl⟩
  have hba : Below w.heap.size w wa := by rw [hwa]; exact ((Below.refl _ _).alloc (Nat.le_refl _) _).alloc (by simp) _
  have q0 : wa.heap[s0 + 1]? = some (.cells #[.bool false, .slice none 0 0, .slice none 0 0] 37 (0, 0)) := by
    have := World.alloc_heap_new (w.alloc (.cells #[.bool s, .slice na nn nc, .slice da dn dc] 37)) (.cells #[.bool false, .slice none 0 0, .slice none 0 0] 37)
    rw [hwa, hs]
    simpa using this
  have hs1 : s0 + 1 < wa.heap.size := (Array.getElem?_eq_some_iff.1 q0).1
  have hc : ∀ o v, (#[Value.bool s, .slice na nn nc, .slice da dn dc] : Array Value)[o]? = some v → wa.cell? ⟨s0, o, none⟩ = some v := fun o v h => by
    rw [hwa, hs, World.cell?_alloc_past _ _ _ (by simp), World.cell?_alloc_at _ _ _ _ rfl]; exact h
  have HS := hid (fun (Y : World) (hY : Below wa.heap.size wa Y) => show Y.cell? ⟨s0, 0, none⟩ = some (.bool s) ∧ Y.cell? ⟨s0, 1, none⟩ = some (.slice na nn nc) ∧ Y.cell? ⟨s0, 2, none⟩ = some (.slice da dn dc) from by
    have k0 : ∀ o, Y.cell? ⟨s0, o, none⟩ = wa.cell? ⟨s0, o, none⟩ := fun o => hY.cell (p := ⟨s0, o, none⟩) (by show s0 < _; omega)
    exact ⟨(k0 0).trans (hc 0 _ rfl), (k0 1).trans (hc 1 _ rfl), (k0 2).trans (hc 2 _ rfl)⟩)
  have HR := hid (fun (Y : World) (hY : Below wa.heap.size wa Y) => show Y.cell? ⟨s0 + 1, 0, none⟩ = some (.bool false) ∧ Y.cell? ⟨s0 + 1, 1, none⟩ = some (.slice none 0 0) ∧ Y.cell? ⟨s0 + 1, 2, none⟩ = some (.slice none 0 0) ∧ (∀ o, Y.frozen? ⟨s0 + 1, o, none⟩ = false) ∧ s0 + 1 < Y.heap.size from by
    have h1 := (hY.block (s0 + 1) hs1).trans q0
    exact ⟨by simp [World.cell?, h1], by simp [World.cell?, h1], by simp [World.cell?, h1], fun o => by simp [World.frozen?, h1], (Array.getElem?_eq_some_iff.1 h1).1⟩)
  have HFIN := hid (fun (Y : World) (hY : Below wa.heap.size wa Y) (x y z : Value) => show Below w.heap.size w (((Y.setCell ⟨s0 + 1, 0, none⟩ x).setCell ⟨s0 + 1, 1, none⟩ y).setCell ⟨s0 + 1, 2, none⟩ z) from
    below_set (below_set (below_set (chain hba hY) (by omega) 0 x) (by omega) 1 y) (by omega) 2 z)
  have HNG := hid (fun (Y : World) (hY : Below wa.heap.size wa Y) => show ∃ c, Y.heap[s0 + 1]? = some (.cells c 37 (0, 0)) ∧ ∀ x : Int, ∀ o : Nat, c[o]? ≠ some (.int .i64 x) from
    ⟨_, (hY.block (s0 + 1) hs1).trans q0, fun x o => by match o with | 0 => simp | 1 => simp | 2 => simp | o + 3 => simp⟩)
  have HNN := hid (fun (Y : World) (hY : Below wa.heap.size wa Y) => And.intro (hN.below (chain hba hY)) (hD.below (chain hba hY)))
  obtain ⟨b, hb⟩ : ∃ b, b = decide (k < 0) := ⟨_, rfl⟩
  obtain ⟨m, hm⟩ : ∃ m : Int, m = (k.natAbs : Nat) := ⟨_, rfl⟩
  rw [← hb, ← hm]
  have hb2 := hb.symm
  have HM1 := hid (fun X => natOf_c X m (by omega) (by omega))
  have hng : IntKind.i64.wrap (-k) = -k := IntWalk.i64_in _ (by omega)
  have hmx : (if -k ≤ k then k else -k) = m := by split <;> omega
  have hmx2 : (if k ≤ -k then -k else k) = m := by split <;> omega
  have hmx3 : (if k < -k then -k else k) = m := by split <;> omega
  clear hba q0 hs1 hc hb hm hN hD
  go_enter Tryz.func23, Tryz.ntmps23
  go_wp2_with fail
  rw [← hs, ← hwa]
  clear hs hwa
  refine plain_region (fun j' X => decide (j' ≤ 15) = true → X.cell? ⟨s0, 0, none⟩ = some (.bool s) ∧ X.cell? ⟨s0, 1, none⟩ = some (.slice na nn nc) ∧ X.cell? ⟨s0, 2, none⟩ = some (.slice da dn dc)) (by kernel_rfl) ?_
  have hbd : Below wa.heap.size wa wa.drew := (Below.refl _ _).drew
  generalize wa.drew = wd at hbd ⊢
  refine AnyT.takeD (i := 0) (v := .pointer (some ⟨s0, 0, none⟩)) rfl rfl (by kernel_rfl) (by kernel_rfl) (by kernel_rfl) (by first | exact (fun _ _ _ h => h) | exact (fun _ _ _ h => absurd h.1 (by simp))) (by kernel_rfl) (by rfl) (by rintro w' ⟨y1, y2, y3⟩; go_simp) (HS.out _ hbd) ?_; go_frame
  refine AnyT.takeD (i := 1) (v := .bool s) rfl rfl (by kernel_rfl) (by kernel_rfl) (by kernel_rfl) (by first | exact (fun _ _ _ h => h) | exact (fun _ _ _ h => absurd h.1 (by simp))) (by kernel_rfl) (by rfl) (by rintro w' ⟨y1, y2, y3⟩; go_simp) (HS.out _ hbd) ?_; go_frame
  refine AnyT.takeD (i := 2) (v := .int .i64 k) rfl rfl (by kernel_rfl) (by kernel_rfl) (by kernel_rfl) (by first | exact (fun _ _ _ h => h) | exact (fun _ _ _ h => absurd h.1 (by simp))) (by kernel_rfl) (by rfl) (by rintro w' ⟨y1, y2, y3⟩; go_simp) (HS.out _ hbd) ?_; go_frame
  refine AnyT.takeD (i := 3) (v := .bool b) rfl rfl (by kernel_rfl) (by kernel_rfl) (by kernel_rfl) (by first | exact (fun _ _ _ h => h) | exact (fun _ _ _ h => absurd h.1 (by simp))) (by kernel_rfl) (by rfl) (by rintro w' ⟨y1, y2, y3⟩; go_simp) (HS.out _ hbd) ?_; go_frame
  refine AnyT.takeD (i := 4) (v := .bool (!(s == b))) rfl rfl (by kernel_rfl) (by kernel_rfl) (by kernel_rfl) (by first | exact (fun _ _ _ h => h) | exact (fun _ _ _ h => absurd h.1 (by simp))) (by kernel_rfl) (by rfl) (by rintro w' ⟨y1, y2, y3⟩; go_simp) (HS.out _ hbd) ?_; go_frame
  refine AnyT.takeD (i := 5) (v := .int .i64 k) rfl rfl (by kernel_rfl) (by kernel_rfl) (by kernel_rfl) (by first | exact (fun _ _ _ h => h) | exact (fun _ _ _ h => absurd h.1 (by simp))) (by kernel_rfl) (by rfl) (by rintro w' ⟨y1, y2, y3⟩; go_simp) (HS.out _ hbd) ?_; go_frame
  refine AnyT.takeD (i := 6) (v := .int .i64 k) rfl rfl (by kernel_rfl) (by kernel_rfl) (by kernel_rfl) (by first | exact (fun _ _ _ h => h) | exact (fun _ _ _ h => absurd h.1 (by simp))) (by kernel_rfl) (by rfl) (by rintro w' ⟨y1, y2, y3⟩; go_simp) (HS.out _ hbd) ?_; go_frame
  refine AnyT.takeD (i := 7) (v := .int .i64 (-k)) rfl rfl (by kernel_rfl) (by kernel_rfl) (by kernel_rfl) (by first | exact (fun _ _ _ h => h) | exact (fun _ _ _ h => absurd h.1 (by simp))) (by kernel_rfl) (by rfl) (by rintro w' ⟨y1, y2, y3⟩; go_simp) (HS.out _ hbd) ?_; go_frame
  refine AnyT.takeD (i := 10) (v := .pointer (some ⟨s0, 1, none⟩)) rfl rfl (by kernel_rfl) (by kernel_rfl) (by kernel_rfl) (by first | exact (fun _ _ _ h => h) | exact (fun _ _ _ h => absurd h.1 (by simp))) (by kernel_rfl) (by rfl) (by rintro w' ⟨y1, y2, y3⟩; go_simp) (HS.out _ hbd) ?_; go_frame
  refine AnyT.takeD (i := 11) (v := .slice na nn nc) rfl rfl (by kernel_rfl) (by kernel_rfl) (by kernel_rfl) (by first | exact (fun _ _ _ h => h) | exact (fun _ _ _ h => absurd h.1 (by simp))) (by kernel_rfl) (by rfl) (by rintro w' ⟨y1, y2, y3⟩; go_simp) (HS.out _ hbd) ?_; go_frame
  refine AnyT.takeD (i := 13) (v := .pointer (some ⟨s0, 2, none⟩)) rfl rfl (by kernel_rfl) (by kernel_rfl) (by kernel_rfl) (by first | exact (fun _ _ _ h => h) | exact (fun _ _ _ h => absurd h.1 (by simp))) (by kernel_rfl) (by rfl) (by rintro w' ⟨y1, y2, y3⟩; go_simp) (HS.out _ hbd) ?_; go_frame
  refine AnyT.takeD (i := 14) (v := .slice da dn dc) rfl rfl (by kernel_rfl) (by kernel_rfl) (by kernel_rfl) (by first | exact (fun _ _ _ h => h) | exact (fun _ _ _ h => absurd h.1 (by simp))) (by kernel_rfl) (by rfl) (by rintro w' ⟨y1, y2, y3⟩; go_simp) (HS.out _ hbd) ?_; go_frame
  refine AnyT.next (i := 8) (by kernel_rfl) rfl (wpOp_of_list rfl ?_)
  go_wp2
  refine ⟨fun _ => HS.out _ hbd, ?_⟩
  refine AnyT.next (i := 9) (by kernel_rfl) rfl (wpOp_of_list rfl ?_)
  go_wp2_with (go_at_call 74; refine (HM1.out _).mono ?_; rintro e w1 ⟨v1, rfl, hv1, hb1⟩; refine Stop.of ?_)
  refine Stop.go ?_
  obtain ⟨a1, n1, c1, rfl⟩ := hv1.slice
  have HV1 := hid hv1
  have HB1 := hid (chain hbd hb1)
  clear hv1 hb1 hmx hmx2 hmx3 hng
  go_wp2
  refine ⟨fun _ => HS.out _ HB1.out, ?_⟩
  refine AnyT.next (i := 12) (by kernel_rfl) rfl (wpOp_of_list rfl ?_)
  go_wp2_with (go_at_call 75; refine (ntimes_c _ _ _ 3 L _ _ HV1.out (HNN.out _ HB1.out).1 (by omega) (by omega)).mono ?_; rintro e w2 ⟨v2, rfl, hv2, hb2'⟩; refine Stop.of ?_)
  refine Stop.go ?_
  obtain ⟨a2, n2, c2, rfl⟩ := hv2.slice
  have HB2 := hid (chain HB1.out hb2')
  have hd2 := (HNN.out _ HB2.out).2
  have HK1 := hid (hv2.keeps3 (g := s0 + 1) (u := .bool (!(s == b))) (v := .slice a2 n2 c2) (z := .slice da dn dc) (HNG.out _ HB2.out))
  have HK2 := hid ((hd2.keeps3 (g := s0 + 1) (u := .bool (!(s == b))) (v := .slice a2 n2 c2) (z := .slice da dn dc) (HNG.out _ HB2.out)).le (show L ≤ 3 + L by omega))
  obtain ⟨x0, x1, x2, hfz, hlt⟩ := HR.out _ HB2.out
  have f0 := hfz 0
  have f1 := hfz 1
  have f2 := hfz 2
  have HFI := hid (HFIN.out _ HB2.out (.bool (!(s == b))) (.slice a2 n2 c2) (.slice da dn dc))
  clear hv2 hd2 hb2' hfz HV1
  go_wp2
  refine ⟨fun _ => HS.out _ HB2.out, ?_⟩
  refine AnyT.takeD (i := 15) (v := .agg #[.bool (!(s == b)), .slice a2 n2 c2, .slice da dn dc]) rfl rfl (by kernel_rfl) (by kernel_rfl) (by kernel_rfl) (by first | exact (fun _ _ _ h => h) | exact (fun _ _ _ h => absurd h.1 (by simp))) (by kernel_rfl) (by rfl) (by rintro w' ⟨y1, y2, y3⟩; go_simp) (HS.out _ HB2.out) ?_; go_frame
  refine AnyT.next (i := 16) (by kernel_rfl) rfl (wpOp_of_list rfl ?_)
  go_wp2
  refine ⟨fun h => absurd h (by decide), ?_⟩
  refine AnyT.done (by kernel_rfl) ?_ _
  go_wp2
  refine bodyPost_ret (v := .agg #[.bool (!(s == b)), .slice a2 n2 c2, .slice da dn dc]) ?_ rfl ⟨_, rfl, ⟨_, _, _, _, _, _, rfl, HK1.out, HK2.out⟩, HFI.out⟩
  simp [results, Tryz.results23, go_sem, x0, x1, x2, f0, f1, f2, hlt]
end Go.Proofs.YtlffndehhhpgjaaGreat

namespace Go.Proofs.YtlffndehhhpgjaaGreat
open Go.RowKit
set_option linter.unusedVariables false
set_option linter.unusedSimpArgs false

def sgn (s : Bool) (N : Int) : Int := if s = true then -N else N
theorem plusQ_val {s t : Bool} {N D M E : Int} : sgn (plusQ (s, N, D) (t, M, E)).1 (plusQ (s, N, D) (t, M, E)).2.1 = sgn s N * E + sgn t M * D := by
  unfold plusQ sgn
  cases s <;> cases t <;> simp <;> (try split) <;> (try simp) <;> grind
theorem plusQ_den {s t : Bool} {N D M E : Int} : (plusQ (s, N, D) (t, M, E)).2.2 = D * E := by
  unfold plusQ
  simp only []
  split
  · rfl
  · split <;> rfl

theorem rat_new {Y : World} {g : Nat} (h : Y.heap[g]? = some (.cells #[.bool false, .slice none 0 0, .slice none 0 0] 37 (0, 0))) :
    Y.cell? ⟨g, 0, none⟩ = some (.bool false) ∧ Y.cell? ⟨g, 1, none⟩ = some (.slice none 0 0) ∧ Y.cell? ⟨g, 2, none⟩ = some (.slice none 0 0) ∧ Y.frozen? ⟨g, 0, none⟩ = false ∧ Y.frozen? ⟨g, 1, none⟩ = false ∧ Y.frozen? ⟨g, 2, none⟩ = false ∧ g < Y.heap.size :=
  ⟨by simp [World.cell?, h], by simp [World.cell?, h], by simp [World.cell?, h], by simp [World.frozen?, h], by simp [World.frozen?, h], by simp [World.frozen?, h], (Array.getElem?_eq_some_iff.1 h).1⟩
theorem set_blk {Y : World} {g : Nat} {c : Array Value} {T : TypeId} {fz : Nat × Nat} (h : Y.heap[g]? = some (.cells c T fz)) (o : Nat) (v : Value) : (Y.setCell ⟨g, o, none⟩ v).heap[g]? = some (.cells (c.setIfInBounds o v) T fz) := by
  obtain ⟨hlt, hk⟩ := Array.getElem?_eq_some_iff.1 h
  show (Y.heap.modify g _)[g]? = _
  rw [Array.getElem?_eq_getElem (by rw [Array.size_modify]; exact hlt), Array.getElem_modify_self, hk]
  rfl
theorem rat_set {wa Y : World} {g N : Nat} (h : Y.heap[g]? = some (.cells #[.bool false, .slice none 0 0, .slice none 0 0] 37 (0, 0))) (hg : N ≤ g) (hb : Below N wa Y) (u v z : Value) :
    (((Y.setCell ⟨g, 0, none⟩ u).setCell ⟨g, 1, none⟩ v).setCell ⟨g, 2, none⟩ z).cell? ⟨g, 0, none⟩ = some u ∧ (((Y.setCell ⟨g, 0, none⟩ u).setCell ⟨g, 1, none⟩ v).setCell ⟨g, 2, none⟩ z).cell? ⟨g, 1, none⟩ = some v ∧
    (((Y.setCell ⟨g, 0, none⟩ u).setCell ⟨g, 1, none⟩ v).setCell ⟨g, 2, none⟩ z).cell? ⟨g, 2, none⟩ = some z ∧ Below N wa (((Y.setCell ⟨g, 0, none⟩ u).setCell ⟨g, 1, none⟩ v).setCell ⟨g, 2, none⟩ z) := by
  have e : (((Y.setCell ⟨g, 0, none⟩ u).setCell ⟨g, 1, none⟩ v).setCell ⟨g, 2, none⟩ z).heap[g]? = some (.cells #[u, v, z] 37 (0, 0)) := by
    have h1 := set_blk h 0 u
    have h2 := set_blk h1 1 v
    have h3 := set_blk h2 2 z
    exact h3
  exact ⟨by simp [World.cell?, e], by simp [World.cell?, e], by simp [World.cell?, e], below_set (below_set (below_set hb hg 0 u) hg 1 v) hg 2 z⟩

def OrdMid (wa : World) (P1 : Bool) (P2 : Int) (fr fr' : Act) (W : World) : Prop :=
  ∃ g pa pn pc qa qn qc r6 r7 r8 r9, fr' = (((((fr.put (some 6) r6).put (some 7) r7).put (some 8) r8).put (some 9) r9).put (some 5) (.pointer (some ⟨g, 0, none⟩))) ∧
    W.cell? ⟨g, 0, none⟩ = some (.bool P1) ∧ W.cell? ⟨g, 1, none⟩ = some (.slice pa pn pc) ∧ W.cell? ⟨g, 2, none⟩ = some (.slice qa qn qc) ∧ (pn = 0 ↔ P2 = 0) ∧ 0 ≤ P2 ∧ Below wa.heap.size wa W

set_option maxRecDepth 100000 in
set_option maxHeartbeats 2000000 in
theorem rorder_c (w : World) (v u : Value) (L K : Nat) (s t : Bool) (N D M E : Int) (h : RatQ w v L s N D) (k : RatQ w u K t M E) (hL : L ≤ 100) (hK : K ≤ 97) :
    Calls Tryz.prog 21 #[v, u] w fun e w' => e = .returned (.int .i64 (cmpI (sgn s N * E) (sgn t M * D))) ∧ Below w.heap.size w w' := by
  obtain ⟨na, nn, nc, da, dn, dc, rfl, hN, hD⟩ := h
  obtain ⟨ma, mn, mc, ea, en, ec, rfl, hM, hE⟩ := k
  obtain ⟨s0, hs⟩ : ∃ s, s = w.heap.size := ⟨_, rfl⟩
  obtain ⟨wa, hwa⟩ : ∃ wa, wa = (w.alloc (.cells #[.bool s, .slice na nn nc, .slice da dn dc] 37)).alloc (.cells #[.bool t, .slice ma mn mc, .slice ea en ec] 37) := ⟨_, rfl⟩
  have hba : Below w.heap.size w wa := by rw [hwa]; exact ((Below.refl _ _).alloc (Nat.le_refl _) _).alloc (by simp) _
  have hs1 : s0 + 1 < wa.heap.size := by rw [hwa, hs]; simp
  have hc : ∀ o v, (#[Value.bool s, .slice na nn nc, .slice da dn dc] : Array Value)[o]? = some v → wa.cell? ⟨s0, o, none⟩ = some v := fun o v h => by
    rw [hwa, hs, World.cell?_alloc_past _ _ _ (by simp), World.cell?_alloc_at _ _ _ _ rfl]; exact h
  have hc2 : ∀ o v, (#[Value.bool t, .slice ma mn mc, .slice ea en ec] : Array Value)[o]? = some v → wa.cell? ⟨s0 + 1, o, none⟩ = some v := fun o v h => by
    rw [hwa, hs, World.cell?_alloc_at _ _ _ _ (by simp)]; exact h
  have HS := hid (fun (Y : World) (hY : Below wa.heap.size wa Y) => show Y.cell? ⟨s0, 0, none⟩ = some (.bool s) ∧ Y.cell? ⟨s0, 1, none⟩ = some (.slice na nn nc) ∧ Y.cell? ⟨s0, 2, none⟩ = some (.slice da dn dc) ∧ Y.cell? ⟨s0 + 1, 0, none⟩ = some (.bool t) ∧ Y.cell? ⟨s0 + 1, 1, none⟩ = some (.slice ma mn mc) ∧ Y.cell? ⟨s0 + 1, 2, none⟩ = some (.slice ea en ec) from by
    have k0 : ∀ o, Y.cell? ⟨s0, o, none⟩ = wa.cell? ⟨s0, o, none⟩ := fun o => hY.cell (p := ⟨s0, o, none⟩) (by show s0 < _; omega)
    have k1 : ∀ o, Y.cell? ⟨s0 + 1, o, none⟩ = wa.cell? ⟨s0 + 1, o, none⟩ := fun o => hY.cell (p := ⟨s0 + 1, o, none⟩) (by show s0 + 1 < _; omega)
    exact ⟨(k0 0).trans (hc 0 _ rfl), (k0 1).trans (hc 1 _ rfl), (k0 2).trans (hc 2 _ rfl), (k1 0).trans (hc2 0 _ rfl), (k1 1).trans (hc2 1 _ rfl), (k1 2).trans (hc2 2 _ rfl)⟩)
  have HBA := hid hba
  have HT := hid (fun (Y : World) (hY : Below wa.heap.size wa Y) => show Calls Tryz.prog 23 #[.int .i64 (-1), .agg #[.bool t, .slice ma mn mc, .slice ea en ec]] Y (fun e w' => ∃ x, e = .returned x ∧ RatQ w' x (3 + K) (!t) M E ∧ Below Y.heap.size Y w') from by
    have h0 := rtimes_c Y (-1) (.agg #[.bool t, .slice ma mn mc, .slice ea en ec]) K t M E (by decide) ⟨_, _, _, _, _, _, rfl, hM.below (chain hba hY), hE.below (chain hba hY)⟩ (by omega)
    have e1 : (t != decide ((-1 : Int) < 0)) = !t := by cases t <;> rfl
    have e2 : (((-1 : Int).natAbs : Nat) : Int) * M = M := by simp
    rwa [e1, e2] at h0)
  have HA := hid (fun (Y : World) (hY : Below wa.heap.size wa Y) => show RatQ Y (.agg #[.bool s, .slice na nn nc, .slice da dn dc]) L s N D from ⟨_, _, _, _, _, _, rfl, hN.below (chain hba hY), hD.below (chain hba hY)⟩)
  obtain ⟨⟨P1, P2, P3⟩, hP⟩ : ∃ P, P = plusQ (s, N, D) (!t, M, E) := ⟨_, rfl⟩
  have HP := hid hP
  have HVAL := hid (show sgn P1 P2 = sgn s N * E - sgn t M * D from by
    have h1 := plusQ_val (s := s) (t := !t) (N := N) (D := D) (M := M) (E := E)
    rw [← hP] at h1
    simp only [] at h1
    have h2 : sgn (!t) M = - sgn t M := by cases t <;> simp [sgn]
    rw [h2] at h1
    rw [h1, Int.neg_mul]
    omega)
  clear hP
  obtain ⟨C, hC⟩ : ∃ C, C = cmpI (sgn s N * E) (sgn t M * D) := ⟨_, rfl⟩
  rw [← hC]
  have HVC := hid (show (P2 = 0 → C = 0) ∧ (P2 ≠ 0 → 0 ≤ P2 → P1 = false → C = 1) ∧ (P2 ≠ 0 → 0 ≤ P2 → P1 = true → C = -1) from by
    rw [hC]
    have hval := HVAL.out
    generalize sgn s N * E = X at hval ⊢
    generalize sgn t M * D = Y at hval ⊢
    unfold cmpI
    refine ⟨fun h => ?_, fun h h0 e => ?_, fun h h0 e => ?_⟩
    · subst h
      have : X = Y := by unfold sgn at hval; split at hval <;> omega
      simp [this]
    · subst e
      have : P2 = X - Y := by simpa [sgn] using hval
      rw [if_neg (by omega), if_neg (by omega)]
    · subst e
      have : -P2 = X - Y := by simpa [sgn] using hval
      rw [if_pos (by omega)])
  clear hC HVAL
  clear hba hs1 hc hc2 hN hD hM hE
  go_enter Tryz.func21, Tryz.ntmps21
  go_wp2_with fail
  rw [← hs, ← hwa]
  clear hs hwa
  refine region_cut (OrdMid wa P1 P2) ?_ ?_
  · refine plain_region (fun j' X => wAll j' = true → X.cell? ⟨s0, 0, none⟩ = some (.bool s) ∧ X.cell? ⟨s0, 1, none⟩ = some (.slice na nn nc) ∧ X.cell? ⟨s0, 2, none⟩ = some (.slice da dn dc) ∧ X.cell? ⟨s0 + 1, 0, none⟩ = some (.bool t) ∧ X.cell? ⟨s0 + 1, 1, none⟩ = some (.slice ma mn mc) ∧ X.cell? ⟨s0 + 1, 2, none⟩ = some (.slice ea en ec)) (by kernel_rfl) ?_
    have hbd : Below wa.heap.size wa wa.drew := (Below.refl _ _).drew
    generalize wa.drew = wd at hbd ⊢
    refine AnyT.takeD (i := 0) (v := .agg #[.bool s, .slice na nn nc, .slice da dn dc]) rfl rfl (by kernel_rfl) (by kernel_rfl) (by kernel_rfl) (by first | exact (fun _ _ _ h => h) | exact (fun _ _ _ h => absurd h.1 (by simp))) (by kernel_rfl) (by rfl) (by rintro w' ⟨y1, y2, y3, y4, y5, y6⟩; go_simp) (HS.out _ hbd) ?_; go_frame
    refine AnyT.takeD (i := 1) (v := .agg #[.bool t, .slice ma mn mc, .slice ea en ec]) rfl rfl (by kernel_rfl) (by kernel_rfl) (by kernel_rfl) (by first | exact (fun _ _ _ h => h) | exact (fun _ _ _ h => absurd h.1 (by simp))) (by kernel_rfl) (by rfl) (by rintro w' ⟨y1, y2, y3, y4, y5, y6⟩; go_simp) (HS.out _ hbd) ?_; go_frame
    refine AnyT.nextB (i := 2) (j := 4) (by kernel_rfl) (wpOp_of_list rfl ?_) (wpOp_of_list rfl ?_)
    · skip
      go_wp2_with (go_at_call 23; refine (HT.out _ hbd).mono ?_; rintro e w1 ⟨vw1, rfl, ⟨ta, tn, tc, tb, tm, te, rfl, ht1, ht2⟩, hbw1⟩; refine Stop.of ?_)
      refine Stop.go ?_
      have HT8 := hid (show RatQ w1 (.agg #[.bool (!t), .slice ta tn tc, .slice tb tm te]) (3 + K) (!t) M E from ⟨_, _, _, _, _, _, rfl, ht1, ht2⟩)
      have hbT := chain hbd hbw1
      clear ht1 ht2
      go_wp2
      refine ⟨fun _ => HS.out _ hbT, ?_⟩
      refine AnyT.nextB (i := 3) (j := 4) (by kernel_rfl) (wpOp_of_list rfl ?_) (wpOp_of_list rfl ?_)
      · skip
        go_wp2_with (go_at_call 24; refine (rplus_c _ _ _ L (3 + K) _ _ _ _ _ _ (HA.out _ hbT) HT8.out (by omega) (by omega)).mono ?_; rintro e w2 ⟨vw2, rfl, ⟨pa, pn, pc, qa, qn, qc, rfl, hp1, hp2⟩, hbw2⟩; refine Stop.of ?_)
        refine Stop.go ?_
        have hbP := chain hbT hbw2
        have HPZ := hid (show (pn = 0 ↔ P2 = 0) ∧ 0 ≤ P2 from by
          rw [← HP.out] at hp1
          refine ⟨?_, hp1.nonneg⟩
          obtain ⟨_, _, _, l, e1, e2, _, _, e4, e5, e6⟩ := hp1
          cases e1
          simp only [] at e6
          rw [← e6, trim_zero e4 e5, e2])
        have HPB := hid (show (plusQ (s, N, D) (!t, M, E)).1 = P1 from by rw [← HP.out])
        clear hp1 hp2
        go_wp2
        refine ⟨fun _ => HS.out _ hbP, ?_⟩
        refine AnyT.next (i := 4) (by kernel_rfl) rfl (wpOp_of_list rfl ?_)
        go_wp2
        have hbA := hbP.alloc hbP.size (.cells #[.bool false, .slice none 0 0, .slice none 0 0] 37)
        obtain ⟨x0, x1, x2, f0, f1, f2, hlt⟩ := rat_new (World.alloc_heap_new w2 (.cells #[.bool false, .slice none 0 0, .slice none 0 0] 37))
        have hfin := hid (fun u v z => rat_set (World.alloc_heap_new w2 (.cells #[.bool false, .slice none 0 0, .slice none 0 0] 37)) hbP.size hbA u v z)
        refine ⟨fun _ => HS.out _ hbA, ?_⟩
        generalize w2.alloc (.cells #[.bool false, .slice none 0 0, .slice none 0 0] 37) = wn at *
        generalize w2.heap.size = g at *
        refine AnyT.next (i := 5) (by kernel_rfl) rfl (wpOp_of_list rfl ?_)
        go_wp2
        obtain ⟨k0, k1, k2, k3⟩ := hfin.out (.bool (plusQ (s, N, D) (!t, M, E)).1) (.slice pa pn pc) (.slice qa qn qc)
        refine ⟨fun _ => HS.out _ k3, ?_⟩
        refine AnyT.done (by kernel_rfl) ?_ _
        exact ⟨rfl, g, pa, pn, pc, qa, qn, qc, _, _, _, _, rfl, k0.trans (congrArg (fun q => some (Value.bool q)) HPB.out), k1, k2, HPZ.out.1, HPZ.out.2, k3⟩
      · skip
        go_wp2
        have hbA := hbT.alloc hbT.size (.cells #[.bool false, .slice none 0 0, .slice none 0 0] 37)
        have hnew := World.alloc_heap_new w1 (.cells #[.bool false, .slice none 0 0, .slice none 0 0] 37)
        have HT9 := hid (show RatQ (w1.alloc (.cells #[.bool false, .slice none 0 0, .slice none 0 0] 37)) (.agg #[.bool (!t), .slice ta tn tc, .slice tb tm te]) (3 + K) (!t) M E from by
          obtain ⟨_, _, _, _, _, _, e, h1, h2⟩ := HT8.out
          cases e
          exact ⟨_, _, _, _, _, _, rfl, h1.below ((Below.refl _ _).alloc (Nat.le_refl _) _), h2.below ((Below.refl _ _).alloc (Nat.le_refl _) _)⟩)
        have hgN := hbT.size
        generalize w1.alloc (.cells #[.bool false, .slice none 0 0, .slice none 0 0] 37) = wn at hbA hnew HT9 ⊢
        obtain ⟨g, hg⟩ : ∃ g, g = w1.heap.size := ⟨_, rfl⟩
        rw [← hg] at hnew hgN ⊢
        clear hg HT8
        refine ⟨fun _ => HS.out _ hbA, ?_⟩
        refine AnyT.next (i := 3) (by kernel_rfl) rfl (wpOp_of_list rfl ?_)
        go_wp2_with (go_at_call 24; refine (rplus_c _ _ _ L (3 + K) _ _ _ _ _ _ (HA.out _ hbA) HT9.out (by omega) (by omega)).mono ?_; rintro e w2 ⟨vw2, rfl, ⟨pa, pn, pc, qa, qn, qc, rfl, hp1, hp2⟩, hbw2⟩; refine Stop.of ?_)
        refine Stop.go ?_
        have hbP := chain hbA hbw2
        have HPZ := hid (show (pn = 0 ↔ P2 = 0) ∧ 0 ≤ P2 from by
          rw [← HP.out] at hp1
          refine ⟨?_, hp1.nonneg⟩
          obtain ⟨_, _, _, l, e1, e2, _, _, e4, e5, e6⟩ := hp1
          cases e1
          simp only [] at e6
          rw [← e6, trim_zero e4 e5, e2])
        have HPB := hid (show (plusQ (s, N, D) (!t, M, E)).1 = P1 from by rw [← HP.out])
        clear hp1 hp2
        have hnew2 := (hbw2.block g (Array.getElem?_eq_some_iff.1 hnew).1).trans hnew
        obtain ⟨x0, x1, x2, f0, f1, f2, hlt⟩ := rat_new hnew2
        have hfin := hid (fun u v z => rat_set hnew2 hgN hbP u v z)
        clear hnew2 hnew
        go_wp2
        refine ⟨fun _ => HS.out _ hbP, ?_⟩
        refine AnyT.next (i := 5) (by kernel_rfl) rfl (wpOp_of_list rfl ?_)
        go_wp2
        obtain ⟨k0, k1, k2, k3⟩ := hfin.out (.bool (plusQ (s, N, D) (!t, M, E)).1) (.slice pa pn pc) (.slice qa qn qc)
        refine ⟨fun _ => HS.out _ k3, ?_⟩
        refine AnyT.done (by kernel_rfl) ?_ _
        exact ⟨rfl, g, pa, pn, pc, qa, qn, qc, _, _, _, _, rfl, k0.trans (congrArg (fun q => some (Value.bool q)) HPB.out), k1, k2, HPZ.out.1, HPZ.out.2, k3⟩
    · skip
      go_wp2
      have HB0 := hbd.alloc hbd.size (.cells #[.bool false, .slice none 0 0, .slice none 0 0] 37)
      have hnew := World.alloc_heap_new wd (.cells #[.bool false, .slice none 0 0, .slice none 0 0] 37)
      have hgN := hbd.size
      generalize wd.alloc (.cells #[.bool false, .slice none 0 0, .slice none 0 0] 37) = wn at HB0 hnew ⊢
      obtain ⟨g, hg⟩ : ∃ g, g = wd.heap.size := ⟨_, rfl⟩
      rw [← hg] at hnew hgN ⊢
      clear hg
      refine ⟨fun _ => HS.out _ HB0, ?_⟩
      refine AnyT.next (i := 2) (by kernel_rfl) rfl (wpOp_of_list rfl ?_)
      · skip
        go_wp2_with (go_at_call 23; refine (HT.out _ HB0).mono ?_; rintro e w1 ⟨vw1, rfl, ⟨ta, tn, tc, tb, tm, te, rfl, ht1, ht2⟩, hbw1⟩; refine Stop.of ?_)
        refine Stop.go ?_
        have HT8 := hid (show RatQ w1 (.agg #[.bool (!t), .slice ta tn tc, .slice tb tm te]) (3 + K) (!t) M E from ⟨_, _, _, _, _, _, rfl, ht1, ht2⟩)
        have hbT := chain HB0 hbw1
        clear ht1 ht2
        have hnew1 := (hbw1.block g (Array.getElem?_eq_some_iff.1 hnew).1).trans hnew
        clear hnew
        go_wp2
        refine ⟨fun _ => HS.out _ hbT, ?_⟩
        refine AnyT.next (i := 3) (by kernel_rfl) rfl (wpOp_of_list rfl ?_)
        go_wp2_with (go_at_call 24; refine (rplus_c _ _ _ L (3 + K) _ _ _ _ _ _ (HA.out _ hbT) HT8.out (by omega) (by omega)).mono ?_; rintro e w2 ⟨vw2, rfl, ⟨pa, pn, pc, qa, qn, qc, rfl, hp1, hp2⟩, hbw2⟩; refine Stop.of ?_)
        refine Stop.go ?_
        have hbP := chain hbT hbw2
        have HPZ := hid (show (pn = 0 ↔ P2 = 0) ∧ 0 ≤ P2 from by
          rw [← HP.out] at hp1
          refine ⟨?_, hp1.nonneg⟩
          obtain ⟨_, _, _, l, e1, e2, _, _, e4, e5, e6⟩ := hp1
          cases e1
          simp only [] at e6
          rw [← e6, trim_zero e4 e5, e2])
        have HPB := hid (show (plusQ (s, N, D) (!t, M, E)).1 = P1 from by rw [← HP.out])
        clear hp1 hp2
        have hnew2 := (hbw2.block g (Array.getElem?_eq_some_iff.1 hnew1).1).trans hnew1
        obtain ⟨x0, x1, x2, f0, f1, f2, hlt⟩ := rat_new hnew2
        have hfin := hid (fun u v z => rat_set hnew2 hgN hbP u v z)
        clear hnew2 hnew1
        go_wp2
        refine ⟨fun _ => HS.out _ hbP, ?_⟩
        refine AnyT.next (i := 5) (by kernel_rfl) rfl (wpOp_of_list rfl ?_)
        go_wp2
        obtain ⟨k0, k1, k2, k3⟩ := hfin.out (.bool (plusQ (s, N, D) (!t, M, E)).1) (.slice pa pn pc) (.slice qa qn qc)
        refine ⟨fun _ => HS.out _ k3, ?_⟩
        refine AnyT.done (by kernel_rfl) ?_ _
        exact ⟨rfl, g, pa, pn, pc, qa, qn, qc, _, _, _, _, rfl, k0.trans (congrArg (fun q => some (Value.bool q)) HPB.out), k1, k2, HPZ.out.1, HPZ.out.2, k3⟩
  · rintro fr' W ⟨g, pa, pn, pc, qa, qn, qc, r6, r7, r8, r9, rfl, c0, c1, c2, hz, h0, hbW⟩
    have HBW := hid (chain HBA.out hbW)
    have HC := hid (show (pn = 0 → C = 0) ∧ (pn ≠ 0 → P1 = false → C = 1) ∧ (pn ≠ 0 → P1 = true → C = -1) from
      ⟨fun h => HVC.out.1 (hz.1 h), fun h e => HVC.out.2.1 (fun h' => h (hz.2 h')) h0 e, fun h e => HVC.out.2.2 (fun h' => h (hz.2 h')) h0 e⟩)
    clear hz hbW h0 HVC HP
    go_frame
    by_cases hp : pn = 0
    · have hpb : ((pn : Int) == 0) = true := by simp [hp]
      obtain rfl := HC.out.1 hp
      clear HC
      go_wp2
      go_ret
      exact ⟨rfl, HBW.out⟩
    · have hpb : ((pn : Int) == 0) = false := by simp [hp]
      cases P1
      · obtain rfl := HC.out.2.1 hp rfl
        clear HC
        go_wp2
        go_ret
        exact ⟨rfl, HBW.out⟩
      · obtain rfl := HC.out.2.2 hp rfl
        clear HC
        go_wp2
        go_ret
        exact ⟨rfl, HBW.out⟩
end Go.Proofs.YtlffndehhhpgjaaGreat

namespace Go.Proofs.YtlffndehhhpgjaaGreat
open Go.RowKit
set_option linter.unusedVariables false
set_option linter.unusedSimpArgs false

theorem RatQ.cast_den {w : World} {v : Value} {L : Nat} {s : Bool} {N D E : Int} (h : RatQ w v L s N D) (e : D = E) : RatQ w v L s N E := e ▸ h
def RatV (w : World) (v : Value) (L : Nat) (n d : Int) : Prop := ∃ s N, RatQ w v L s N d ∧ sgn s N = n
theorem RatV.below {w w' : World} {v : Value} {L : Nat} {n d : Int} (h : RatV w v L n d) (hb : Below w.heap.size w w') : RatV w' v L n d := by
  obtain ⟨s, N, h, e⟩ := h
  exact ⟨s, N, h.below hb, e⟩
theorem RatV.agg {w : World} {v : Value} {L : Nat} {n d : Int} (h : RatV w v L n d) : ∃ s a k c b m e, v = .agg #[.bool s, .slice a k c, .slice b m e] ∧ True := by
  obtain ⟨s, N, ⟨a, k, c, b, m, e, rfl, _, _⟩, _⟩ := h
  exact ⟨s, a, k, c, b, m, e, rfl, trivial⟩
theorem RatV.le {w : World} {v : Value} {L K : Nat} {n d : Int} (h : RatV w v L n d) (hk : L ≤ K) : RatV w v K n d := by
  obtain ⟨s, N, h, e⟩ := h
  exact ⟨s, N, h.le hk, e⟩
theorem sgn_nat (N : Int) : sgn (decide (N < 0)) (N.natAbs : Nat) = N := by
  unfold sgn
  by_cases h : N < 0 <;> simp [h] <;> omega
theorem sgn_mul (k N : Int) (s : Bool) : sgn (s != decide (k < 0)) ((k.natAbs : Nat) * N) = k * sgn s N := by
  have hk := sgn_nat k
  obtain ⟨m, hm⟩ : ∃ m : Int, m = (k.natAbs : Nat) := ⟨_, rfl⟩
  rw [← hm] at hk ⊢
  obtain ⟨b, hb⟩ : ∃ b, b = decide (k < 0) := ⟨_, rfl⟩
  rw [← hb] at hk ⊢
  subst hk
  unfold sgn
  cases s <;> cases b <;> simp [Int.neg_mul, Int.mul_neg]

theorem rplus_v (w : World) (v u : Value) (L K : Nat) (n d m e : Int) (h : RatV w v L n d) (k : RatV w u K m e) (hL : L ≤ 100) (hK : K ≤ 100) :
    Calls Tryz.prog 24 #[v, u] w fun e' w' => ∃ x, e' = .returned x ∧ RatV w' x (L + K + 1) (n * e + m * d) (d * e) ∧ Below w.heap.size w w' := by
  obtain ⟨s, N, h, rfl⟩ := h
  obtain ⟨t, M, k, rfl⟩ := k
  refine (rplus_c w v u L K s t N d M e h k hL hK).mono ?_
  rintro e' w' ⟨x, rfl, hx, hb⟩
  refine ⟨x, rfl, ⟨_, _, hx.cast_den plusQ_den, plusQ_val⟩, hb⟩
theorem rtimes_v (w : World) (k : Int) (v : Value) (L : Nat) (n d : Int) (hk : -4611686018427387904 ≤ k ∧ k ≤ 4611686018427387904) (h : RatV w v L n d) (hL : L ≤ 100) :
    Calls Tryz.prog 23 #[.int .i64 k, v] w fun e w' => ∃ x, e = .returned x ∧ RatV w' x (3 + L) (k * n) d ∧ Below w.heap.size w w' := by
  obtain ⟨s, N, h, rfl⟩ := h
  refine (rtimes_c w k v L s N d hk h hL).mono ?_
  rintro e' w' ⟨x, rfl, hx, hb⟩
  exact ⟨x, rfl, ⟨_, _, hx, sgn_mul k N s⟩, hb⟩
theorem exact_v (w : World) (N D : Int) (hN : -4611686018427387904 ≤ N ∧ N ≤ 4611686018427387904) (hD : 0 ≤ D ∧ D ≤ 4611686018427387904) :
    Calls Tryz.prog 22 #[.agg #[.int .i64 N, .int .i64 D]] w fun e w' => ∃ x, e = .returned x ∧ RatV w' x 3 N D ∧ Below w.heap.size w w' := by
  refine (exact_c w N D hN hD).mono ?_
  rintro e' w' ⟨x, rfl, hx, hb⟩
  exact ⟨x, rfl, ⟨_, _, hx, sgn_nat N⟩, hb⟩
theorem rorder_v (w : World) (v u : Value) (L K : Nat) (n d m e : Int) (h : RatV w v L n d) (k : RatV w u K m e) (hL : L ≤ 100) (hK : K ≤ 97) :
    Calls Tryz.prog 21 #[v, u] w fun e' w' => e' = .returned (.int .i64 (cmpI (n * e) (m * d))) ∧ Below w.heap.size w w' := by
  obtain ⟨s, N, h, rfl⟩ := h
  obtain ⟨t, M, k, rfl⟩ := k
  exact rorder_c w v u L K s t N d M e h k hL hK

def RatIn (w : World) (g L : Nat) (n d : Int) : Prop := ∃ s a k c b m e, w.heap[g]? = some (.cells #[.bool s, .slice a k c, .slice b m e] 37 (0, 0)) ∧ RatV w (.agg #[.bool s, .slice a k c, .slice b m e]) L n d
theorem RatIn.below {w w' : World} {g L : Nat} {n d : Int} (h : RatIn w g L n d) (hb : Below w.heap.size w w') : RatIn w' g L n d := by
  obtain ⟨s, a, k, c, b, m, e, h1, h2⟩ := h
  exact ⟨s, a, k, c, b, m, e, (hb.block g (Array.getElem?_eq_some_iff.1 h1).1).trans h1, h2.below hb⟩
theorem RatIn.le {w : World} {g L K : Nat} {n d : Int} (h : RatIn w g L n d) (hk : L ≤ K) : RatIn w g K n d := by
  obtain ⟨s, a, k, c, b, m, e, h1, h2⟩ := h
  exact ⟨s, a, k, c, b, m, e, h1, h2.le hk⟩
def QBlk (w : World) (g : Nat) : Prop := ∃ s a k c b m e, w.heap[g]? = some (.cells #[.bool s, .slice a k c, .slice b m e] 37 (0, 0))
theorem RatIn.blk {w : World} {g L : Nat} {n d : Int} (h : RatIn w g L n d) : QBlk w g := by
  obtain ⟨s, a, k, c, b, m, e, h1, h2⟩ := h
  exact ⟨s, a, k, c, b, m, e, h1⟩
theorem QBlk.below {w w' : World} {g : Nat} (h : QBlk w g) (hb : Below w.heap.size w w') : QBlk w' g := by
  obtain ⟨s, a, k, c, b, m, e, h1⟩ := h
  exact ⟨s, a, k, c, b, m, e, (hb.block g (Array.getElem?_eq_some_iff.1 h1).1).trans h1⟩
end Go.Proofs.YtlffndehhhpgjaaGreat

namespace Go.Proofs.YtlffndehhhpgjaaGreat
open Go.ChangeShapes Go.WideShapes Go.ChangeAt Go.RowKit Go.Deep
set_option linter.unusedVariables false
set_option linter.unusedSimpArgs false

def Fits64 (n : Int) : Prop := -9223372036854775808 ≤ n ∧ n ≤ 9223372036854775807
theorem fits64 {n : Int} (h : (Lit.int .i64 n).wf = true) : Fits64 n := by
  simpa [Fits64, Lit.wf, IntKind.min, IntKind.max, IntKind.signed, IntKind.bits] using h

theorem cell_plain {w : World} {a : Addr} {v : Value} (h : w.cell? a = some v) : a = ⟨a.block, a.off, none⟩ ∧ a.block < w.heap.size := by
  unfold World.cell? at h
  split at h
  · rename_i c _ _ hb
    obtain ⟨b, o, s⟩ := a
    cases s with
    | none => exact ⟨rfl, (Array.getElem?_eq_some_iff.1 hb).1⟩
    | some s => simp at h
  · simp at h

theorem add_plain (b o : Nat) (i : Nat) : (Addr.mk b o none).add i = ⟨b, o + i, none⟩ := by
  unfold Addr.add
  split
  · rename_i h; rw [h]; rfl
  · rfl

section
variable {H : Type} {enc : TypeId × Value → H} {P : Program} {w : World} {base : Nat} {held : Bool}

theorem ints_opened {e q : TypeId} {fuel : Nat} {a : Option Addr} {n cap : Nat} {x : DataW H × List MemPlace} (he : P.underlying e = some (.slice q)) (hq : P.underlying q = some (.int .i64)) (cq : P.cellsOf q = 1)
    (h : DataW.trod enc P w base (fun _ => true) held fuel e [.slice a n cap] = some x) : ∃ l : List Int, l.length = n ∧ n ≤ maxLen ∧ IntsAt w a l ∧ ∀ y ∈ l, Fits64 y := by
  rcases open_ints he hq cq h with ⟨hcs, _⟩ | ⟨x, l, c, zs, hcs, _, hl, hm, hz, _, hcell, hwz⟩
  · simp at hcs
    obtain ⟨rfl, rfl, rfl⟩ := hcs
    exact ⟨[], rfl, by decide, fun j hj => by simp at hj, fun y hy => by simp at hy⟩
  · simp at hcs
    obtain ⟨rfl, rfl, rfl⟩ := hcs
    simp only [if_true] at hz
    refine ⟨zs.take n, by rw [List.length_take]; omega, by omega, fun j hj => ?_, fun y hy => fits64 (hwz y (List.mem_of_mem_take hy))⟩
    rw [List.length_take] at hj
    have h0 := cell_plain (hcell 0 (by omega))
    simp only [Addr.add, if_true] at h0
    obtain ⟨b, o, s⟩ := x
    have hs : s = none := by have := h0.1; simp at this; exact this
    subst hs
    refine ⟨b, o, rfl, h0.2, ?_⟩
    have := hcell j (by omega)
    rw [add_plain] at this
    rw [this]
    simp [List.getElem?_take, show j < n by omega, List.getD]

theorem arg_ints {r : Reach} {b0 : Nat} {e q : TypeId} {v : Value} {d : DataW H} {p : List MemPlace} (he : P.underlying e = some (.slice q)) (hq : P.underlying q = some (.int .i64)) (cq : P.cellsOf q = 1)
    (hv : Value.okWide P w r b0 e v) (h : DataW.Trod enc P w base (fun _ => true) held e v d p) : ∃ a n cap, ∃ l : List Int, v = .slice a n cap ∧ l.length = n ∧ n ≤ maxLen ∧ IntsAt w a l ∧ ∀ y ∈ l, Fits64 y := by
  obtain ⟨a, n, cap, rfl⟩ := okWide_slice he hv
  obtain ⟨fuel, hf⟩ := h
  obtain ⟨l, h1, h2, h3, h4⟩ := ints_opened he hq cq (by simpa [Value.cells] using hf)
  exact ⟨a, n, cap, l, rfl, h1, h2, h3, h4⟩

theorem arg_rows {r : Reach} {b0 : Nat} {t e q : TypeId} {v : Value} {d : DataW H} {p : List MemPlace} (ht : P.underlying t = some (.slice e)) (ce : P.cellsOf e = 1) (he : P.underlying e = some (.slice q)) (hq : P.underlying q = some (.int .i64)) (cq : P.cellsOf q = 1)
    (hv : Value.okWide P w r b0 t v) (h : DataW.Trod enc P w base (fun _ => true) held t v d p) : ∃ a n cap, ∃ l : List (List Int), v = .slice a n cap ∧ l.length = n ∧ n ≤ maxLen ∧ RowsAt w a l ∧ ∀ y ∈ l, ∀ z ∈ y, Fits64 z := by
  obtain ⟨a, n, cap, rfl⟩ := okWide_slice ht hv
  obtain ⟨fuel, hf⟩ := h
  rcases open_slice1 ht ce (by simpa [Value.cells] using hf) with ⟨hcs, _⟩ | ⟨x, len, c', m, nn, V, D, Pl, hcs, _, hl, hm, hmm, _, hx⟩
  · simp at hcs
    obtain ⟨rfl, rfl, rfl⟩ := hcs
    exact ⟨none, 0, 0, [], rfl, rfl, by decide, fun j hj => by simp at hj, fun y hy => by simp at hy⟩
  simp at hcs
  obtain ⟨rfl, rfl, rfl⟩ := hcs
  simp only [if_true] at hmm
  have each : ∀ i, i < n → ∃ y : List Int × Option Addr × Nat × Nat, w.cell? (x.add i) = some (.slice y.2.1 y.2.2.1 y.2.2.2) ∧ y.1.length = y.2.2.1 ∧ y.2.2.1 ≤ maxLen ∧ IntsAt w y.2.1 y.1 ∧ (∀ z ∈ y.1, Fits64 z) := by
    intro i hi
    obtain ⟨hc, t0⟩ := hx i (by omega)
    have hsl : ∃ ra rn rc, V i = .slice ra rn rc := by
      rcases open_ints he hq cq t0 with ⟨hcs, _⟩ | ⟨x, l, c, zs, hcs, _⟩
      · simp at hcs; exact ⟨_, _, _, hcs⟩
      · simp at hcs; exact ⟨_, _, _, hcs⟩
    obtain ⟨ra, rn, rc, hV⟩ := hsl
    rw [hV] at hc t0
    obtain ⟨l, q1, q2, q3, q4⟩ := ints_opened he hq cq t0
    exact ⟨(l, ra, rn, rc), hc, q1, q2, q3, q4⟩
  haveI : Inhabited (List Int × Option Addr × Nat × Nat) := ⟨([], none, 0, 0)⟩
  obtain ⟨y, hy⟩ := choose_lt each
  refine ⟨some x, n, cap, (List.range n).map fun i => (y i).1, rfl, by simp, by omega, fun j hj => ?_, fun z hz => ?_⟩
  · have hjn : j < n := by simpa using hj
    have hp := cell_plain (hy 0 (by omega)).1
    simp only [Addr.add, if_true] at hp
    obtain ⟨b, o, s⟩ := x
    have hs' : s = none := by have := hp.1; simp at this; exact this
    subst hs'
    obtain ⟨r0, r3, r4, r5, r6⟩ := hy j hjn
    rw [add_plain] at r0
    refine ⟨b, o, (y j).2.1, (y j).2.2.1, (y j).2.2.2, rfl, hp.2, r0, ?_, r4, ?_⟩ <;> simp only [List.getElem_map, List.getElem_range] <;> assumption
  · obtain ⟨i, hi, rfl⟩ := List.mem_map.1 hz
    exact (hy i (List.mem_range.1 hi)).2.2.2.2
end
end Go.Proofs.YtlffndehhhpgjaaGreat

namespace Go.Proofs.YtlffndehhhpgjaaGreat.dualScales
open Go.RowKit
set_option maxRecDepth 100000 in
set_option maxHeartbeats 8000000 in
theorem closedF : joinedFacts Tryz.prog 3 Tryz.f3 Rows.dualScalesSpec Rows.dualScalesRow = true := by
  unfold joinedFacts
  simp only [Bool.and_eq_true]
  repeat' apply And.intro
  all_goals (as_aux_lemma => kernel_rfl)
end Go.Proofs.YtlffndehhhpgjaaGreat.dualScales
