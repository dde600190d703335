/- Walks and plain laws for LinMakesRow, part 8. -/
import Derived.ChangeOld
import Derived.Deep.Slices
import Derived.Lib.SmallJoins
import Derived.Test.YtfipebkhomppmaaPkLinMakesRow7
namespace Go.Proofs.Ytfipebkhomppmaa
open Go.RowKit
set_option linter.unusedVariables false

theorem RatQ.cast_den {w : World} {v : Value} {L : Nat} {s : Bool} {N D E : Int} (h : RatQ w v L s N D) (e : D = E) : RatQ w v L s N E := e ▸ h
def RatV (w : World) (v : Value) (L : Nat) (n d : Int) : Prop := ∃ s N, RatQ w v L s N d ∧ sgn s N = n
theorem RatV.below {w w' : World} {v : Value} {L : Nat} {n d : Int} (h : RatV w v L n d) (hb : Below w.heap.size w w') : RatV w' v L n d := by
  obtain ⟨s, N, h, e⟩ := h
  exact ⟨s, N, h.below hb, e⟩
theorem RatV.agg {w : World} {v : Value} {L : Nat} {n d : Int} (h : RatV w v L n d) : ∃ s a k c b m e, v = .agg #[.bool s, .slice a k c, .slice b m e] ∧ True := by
  obtain ⟨s, N, ⟨a, k, c, b, m, e, rfl, _, _⟩, _⟩ := h
  exact ⟨s, a, k, c, b, m, e, rfl, trivial⟩
theorem RatV.le {w : World} {v : Value} {L K : Nat} {n d : Int} (h : RatV w v L n d) (hk : L ≤ K) : RatV w v K n d := by
  obtain ⟨s, N, h, e⟩ := h
  exact ⟨s, N, h.le hk, e⟩
theorem sgn_nat (N : Int) : sgn (decide (N < 0)) (N.natAbs : Nat) = N := by
  unfold sgn
  by_cases h : N < 0 <;> simp [h] <;> omega
theorem sgn_mul (k N : Int) (s : Bool) : sgn (s != decide (k < 0)) ((k.natAbs : Nat) * N) = k * sgn s N := by
  have hk := sgn_nat k
  obtain ⟨m, hm⟩ : ∃ m : Int, m = (k.natAbs : Nat) := ⟨_, rfl⟩
  rw [← hm] at hk ⊢
  obtain ⟨b, hb⟩ : ∃ b, b = decide (k < 0) := ⟨_, rfl⟩
  rw [← hb] at hk ⊢
  subst hk
  unfold sgn
  cases s <;> cases b <;> simp [Int.neg_mul, Int.mul_neg]

theorem rplus_v (w : World) (v u : Value) (L K : Nat) (n d m e : Int) (h : RatV w v L n d) (k : RatV w u K m e) (hL : L ≤ 100) (hK : K ≤ 100) :
    Calls Try.prog 145 #[v, u] w fun e' w' => ∃ x, e' = .returned x ∧ RatV w' x (L + K + 1) (n * e + m * d) (d * e) ∧ Below w.heap.size w w' := by
  obtain ⟨s, N, h, rfl⟩ := h
  obtain ⟨t, M, k, rfl⟩ := k
  refine (rplus_c w v u L K s t N d M e h k hL hK).mono ?_
  rintro e' w' ⟨x, rfl, hx, hb⟩
  refine ⟨x, rfl, ⟨_, _, hx.cast_den plusQ_den, plusQ_val⟩, hb⟩
theorem rtimes_v (w : World) (k : Int) (v : Value) (L : Nat) (n d : Int) (hk : -4611686018427387904 ≤ k ∧ k ≤ 4611686018427387904) (h : RatV w v L n d) (hL : L ≤ 100) :
    Calls Try.prog 146 #[.int .i64 k, v] w fun e w' => ∃ x, e = .returned x ∧ RatV w' x (3 + L) (k * n) d ∧ Below w.heap.size w w' := by
  obtain ⟨s, N, h, rfl⟩ := h
  refine (rtimes_c w k v L s N d hk h hL).mono ?_
  rintro e' w' ⟨x, rfl, hx, hb⟩
  exact ⟨x, rfl, ⟨_, _, hx, sgn_mul k N s⟩, hb⟩
theorem exact_v (w : World) (N D : Int) (hN : -4611686018427387904 ≤ N ∧ N ≤ 4611686018427387904) (hD : 0 ≤ D ∧ D ≤ 4611686018427387904) :
    Calls Try.prog 147 #[.agg #[.int .i64 N, .int .i64 D]] w fun e w' => ∃ x, e = .returned x ∧ RatV w' x 3 N D ∧ Below w.heap.size w w' := by
  refine (exact_c w N D hN hD).mono ?_
  rintro e' w' ⟨x, rfl, hx, hb⟩
  exact ⟨x, rfl, ⟨_, _, hx, sgn_nat N⟩, hb⟩
theorem whole_v (w : World) (n : Int) (hN : -4611686018427387904 ≤ n ∧ n ≤ 4611686018427387904) :
    Calls Try.prog 108 #[.int .i64 n] w fun e w' => ∃ x, e = .returned x ∧ RatV w' x 3 n 1 ∧ Below w.heap.size w w' := by
  refine (whole_c w n hN).mono ?_
  rintro e' w' ⟨x, rfl, hx, hb⟩
  exact ⟨x, rfl, ⟨_, _, hx, sgn_nat n⟩, hb⟩
theorem rorder_v (w : World) (v u : Value) (L K : Nat) (n d m e : Int) (h : RatV w v L n d) (k : RatV w u K m e) (hL : L ≤ 100) (hK : K ≤ 97) :
    Calls Try.prog 106 #[v, u] w fun e' w' => e' = .returned (.int .i64 (cmpI (n * e) (m * d))) ∧ Below w.heap.size w w' := by
  obtain ⟨s, N, h, rfl⟩ := h
  obtain ⟨t, M, k, rfl⟩ := k
  exact rorder_c w v u L K s t N d M e h k hL hK

def RatIn (w : World) (g L : Nat) (n d : Int) : Prop := ∃ s a k c b m e, w.heap[g]? = some (.cells #[.bool s, .slice a k c, .slice b m e] 113 (0, 0)) ∧ RatV w (.agg #[.bool s, .slice a k c, .slice b m e]) L n d
theorem RatIn.below {w w' : World} {g L : Nat} {n d : Int} (h : RatIn w g L n d) (hb : Below w.heap.size w w') : RatIn w' g L n d := by
  obtain ⟨s, a, k, c, b, m, e, h1, h2⟩ := h
  exact ⟨s, a, k, c, b, m, e, (hb.block g (Array.getElem?_eq_some_iff.1 h1).1).trans h1, h2.below hb⟩
theorem RatIn.le {w : World} {g L K : Nat} {n d : Int} (h : RatIn w g L n d) (hk : L ≤ K) : RatIn w g K n d := by
  obtain ⟨s, a, k, c, b, m, e, h1, h2⟩ := h
  exact ⟨s, a, k, c, b, m, e, h1, h2.le hk⟩
def QBlk (w : World) (g : Nat) : Prop := ∃ s a k c b m e, w.heap[g]? = some (.cells #[.bool s, .slice a k c, .slice b m e] 113 (0, 0))
theorem QBlk.below {w w' : World} {g : Nat} (h : QBlk w g) (hb : Below w.heap.size w w') : QBlk w' g := by
  obtain ⟨s, a, k, c, b, m, e, h1⟩ := h
  exact ⟨s, a, k, c, b, m, e, (hb.block g (Array.getElem?_eq_some_iff.1 h1).1).trans h1⟩
theorem QBlk.store {w : World} {g : Nat} (h : QBlk w g) {v : Value} {L : Nat} {n d : Int} (k : RatV w v L n d) :
    ∃ s a k c b m e, v = .agg #[.bool s, .slice a k c, .slice b m e] ∧ (∀ o, o < 3 → ∃ u, w.cell? ⟨g, o, none⟩ = some u) ∧ (∀ o, w.frozen? ⟨g, o, none⟩ = false) ∧ g < w.heap.size ∧
      RatIn (((w.setCell ⟨g, 0, none⟩ (.bool s)).setCell ⟨g, 1, none⟩ (.slice a k c)).setCell ⟨g, 2, none⟩ (.slice b m e)) g L n d ∧
      RatV (((w.setCell ⟨g, 0, none⟩ (.bool s)).setCell ⟨g, 1, none⟩ (.slice a k c)).setCell ⟨g, 2, none⟩ (.slice b m e)) (.agg #[.bool s, .slice a k c, .slice b m e]) L n d := by
  obtain ⟨s0, a0, k0, c0, b0, m0, e0, h1⟩ := h
  obtain ⟨t, N, ⟨a, k, c, b, m, e, rfl, hN, hD⟩, hv⟩ := k
  have hng : ∃ c, w.heap[g]? = some (.cells c 113 (0, 0)) ∧ ∀ x : Int, ∀ o : Nat, c[o]? ≠ some (.int .i64 x) :=
    ⟨_, h1, fun x o => by match o with | 0 => simp | 1 => simp | 2 => simp | o + 3 => simp⟩
  have hr : RatV (((w.setCell ⟨g, 0, none⟩ (.bool t)).setCell ⟨g, 1, none⟩ (.slice a k c)).setCell ⟨g, 2, none⟩ (.slice b m e)) (.agg #[.bool t, .slice a k c, .slice b m e]) L n d :=
    ⟨t, N, ⟨_, _, _, _, _, _, rfl, hN.keeps3 hng, hD.keeps3 hng⟩, hv⟩
  refine ⟨t, a, k, c, b, m, e, rfl, ?_, fun o => by simp [World.frozen?, h1], (Array.getElem?_eq_some_iff.1 h1).1, ?_, hr⟩
  · intro o ho
    match o with
    | 0 => exact ⟨_, by simp [World.cell?, h1]; rfl⟩
    | 1 => exact ⟨_, by simp [World.cell?, h1]; rfl⟩
    | 2 => exact ⟨_, by simp [World.cell?, h1]; rfl⟩
    | o + 3 => omega
  · have h2 := set_blk (set_blk (set_blk h1 0 (.bool t)) 1 (.slice a k c)) 2 (.slice b m e)
    exact ⟨t, a, k, c, b, m, e, h2, hr⟩

set_option maxRecDepth 100000 in
set_option maxHeartbeats 4000000 in
theorem sees_c (w : World) (a a2 : Option Addr) (n cap n2 cap2 : Nat) (r : List Int) (x : List Rt) (hn : r.length = n) (hn2 : x.length = n2) (hle : n ≤ n2) (hm : n ≤ 10) (H : IntsAt w a r) (H2 : RatsAt w a2 x)
    (hr : ∀ k, -1000000000000 ≤ vec r k ∧ vec r k ≤ 1000000000000) (hx : ∀ k, 0 ≤ (ratAt x k).2 ∧ (ratAt x k).2 ≤ 1000000000000 ∧ -1000000000000 ≤ (ratAt x k).1 ∧ (ratAt x k).1 ≤ 1000000000000) :
    Calls Try.prog 107 #[.slice a n cap, .slice a2 n2 cap2] w fun e w' => ∃ v, e = .returned v ∧ RatV w' v 90 (sumR r x n).1 (sumR r x n).2 ∧ Below w.heap.size w w' := by
  obtain ⟨s0, hs⟩ : ∃ s, s = w.heap.size := ⟨_, rfl⟩
  obtain ⟨wa, hwa⟩ : ∃ wa, wa = w.alloc (.cells #[.bool false, .slice none 0 0, .slice none 0 0] 113) := ⟨_, rfl⟩
  have hba : Below w.heap.size w wa := by rw [hwa]; exact (Below.refl _ _).alloc (Nat.le_refl _) _
  have q0 : wa.heap[s0]? = some (.cells #[.bool false, .slice none 0 0, .slice none 0 0] 113 (0, 0)) := by
    rw [hwa, hs]; exact World.alloc_heap_new w _
  have hs1 : s0 < wa.heap.size := (Array.getElem?_eq_some_iff.1 q0).1
  have HQ0 := hid (fun (Y : World) (hY : Below wa.heap.size wa Y) => show QBlk Y s0 from ⟨_, _, _, _, _, _, _, (hY.block s0 hs1).trans q0⟩)
  have HBA := hid hba
  have HFIN := hid (fun (Y : World) (hY : Below wa.heap.size wa Y) (x y z : Value) => show Below w.heap.size w (((Y.setCell ⟨s0, 0, none⟩ x).setCell ⟨s0, 1, none⟩ y).setCell ⟨s0, 2, none⟩ z) from
    below_set (below_set (below_set (chain hba hY) (by omega) 0 x) (by omega) 1 y) (by omega) 2 z)
  have HRI := hid (fun (X : World) (hX : Below wa.heap.size wa X) => H.below (chain hba hX))
  have HXI := hid (fun (X : World) (hX : Below wa.heap.size wa X) => H2.below (chain hba hX))
  have HR := hid hr
  have HX := hid hx
  have HN := hid hn
  have HN2 := hid hn2
  have HSZ := hid (show sumR r x 0 = (0, 1) from rfl)
  have HSR := hid (fun t => show sumR r x (t + 1) = if vec r t ≠ 0 then ((sumR r x t).1 * (ratAt x t).2 + (sumR r x t).2 * ((ratAt x t).1 * vec r t), (sumR r x t).2 * (ratAt x t).2) else sumR r x t from rfl)
  clear hba q0 hs1 H H2 hr hx hn hn2
  go_enter Try.func107, Try.ntmps107
  go_wp2_with fail
  rw [← hs, ← hwa]
  clear hs hwa
  go_wp2_with (go_at_call 108; refine (whole_v _ 0 (by decide)).mono ?_; rintro e w1 ⟨v1, rfl, hv1, hb1⟩; refine Stop.of ?_)
  refine Stop.go ?_
  obtain ⟨ss, sa, sk, sc, sb, sm', se, rfl, _⟩ := hv1.agg
  have HV1 := hid hv1
  have HB1 := hid hb1
  clear hv1 hb1
  go_wp2_with fail
  obtain ⟨wb, hwb⟩ : ∃ wb, wb = w1.alloc (.cells #[.bool ss, .slice sa sk sc, .slice sb sm' se] 113) := ⟨_, rfl⟩
  obtain ⟨g, hg⟩ : ∃ g, g = w1.heap.size := ⟨_, rfl⟩
  have hrb : RatIn wb g 3 0 1 := by
    rw [hwb, hg]
    exact ⟨ss, sa, sk, sc, sb, sm', se, World.alloc_heap_new _ _, HV1.out.below ((Below.refl _ _).alloc (Nat.le_refl _) _)⟩
  have hbb : Below wa.heap.size wa wb := by rw [hwb]; exact HB1.out.alloc HB1.out.size _
  have hgs : wa.heap.size ≤ g := by rw [hg]; exact HB1.out.size
  rw [← hwb, ← hg]
  have HRB := hid hrb
  have HBB := hid hbb
  clear hwb hg hrb hbb HV1 HB1
  go_loopw [11] (fun i wr => ∃ t : Nat, t ≤ n ∧ i = .int .i64 t ∧ RatIn wr g (3 + 7 * t) (sumR r x t).1 (sumR r x t).2 ∧ Below wa.heap.size wa wr) (fun i _ => n - (intOf i).toNat)
  case atStart => exact ⟨0, Nat.zero_le _, rfl, by rw [HSZ.out]; exact HRB.out, HBB.out⟩
  case round =>
    obtain ⟨t, ht, rfl, hrr, hbr⟩ := hrel
    by_cases htl : t < n
    · obtain ⟨b6, o6, rfl, hb6, hc6⟩ := (HRI.out wr hbr) t (by rw [HN.out]; exact htl)
      have hv6 : r[t]?.getD 0 = vec r t := rfl
      rw [hv6] at hc6
      have hone := HR.out t
      have hsr := HSR.out t
      obtain ⟨v, hv⟩ : ∃ v, v = vec r t := ⟨_, rfl⟩
      rw [← hv] at hc6 hsr hone
      have i1 : (t : Int) < (n : Int) := by omega
      by_cases h0 : v = 0
      · rw [if_neg (by simp [h0])] at hsr
        have hvb : (v != 0) = false := by simp [h0]
        have HSX := hid hsr
        have HRR := hid hrr
        have HBR := hid hbr
        clear hv6 hv hsr hrr hbr
        go_wp2
        refine ⟨⟨t + 1, by omega, by go_num, by rw [HSX.out]; exact HRR.out.le (by omega), HBR.out⟩, by simp [intOf]; omega⟩
      · rw [if_pos h0] at hsr
        have hvb : (v != 0) = true := by simp [h0]
        obtain ⟨x1, x2, x3, x4⟩ := HX.out t
        have htx : t < x.length := by rw [HN2.out]; omega
        obtain ⟨bx, ox, rfl, hbx, hx0, hx1⟩ := (HXI.out wr hbr) t htx
        have hxt : ratAt x t = x[t]'htx := by unfold ratAt; rw [List.getElem?_eq_getElem htx]; rfl
        rw [← hxt] at hx0 hx1
        have HSX := hid hsr
        obtain ⟨⟨N, D⟩, hND⟩ : ∃ q, q = ratAt x t := ⟨_, rfl⟩
        rw [← hND] at hx0 hx1 x1 x2 x3 x4 HSX
        obtain ⟨⟨sn, sd⟩, hS⟩ : ∃ q, q = sumR r x t := ⟨_, rfl⟩
        rw [← hS] at hrr HSX
        simp only [] at hx0 hx1 x1 x2 x3 x4 HSX hrr
        obtain ⟨us, ua, uk, uc, ub, um, ue, hgb, hrv⟩ := hrr
        have hglt := (Array.getElem?_eq_some_iff.1 hgb).1
        have HQB := hid (fun (X : World) (hX : Below wr.heap.size wr X) => show QBlk X g from ⟨us, ua, uk, uc, ub, um, ue, (hX.block g hglt).trans hgb⟩)
        have HRV := hid (fun (X : World) (hX : Below wr.heap.size wr X) => hrv.below hX)
        have HS := hid (fun (X : World) (hX : Below wr.heap.size wr X) => show X.cell? ⟨g, 0, none⟩ = some (.bool us) ∧ X.cell? ⟨g, 1, none⟩ = some (.slice ua uk uc) ∧ X.cell? ⟨g, 2, none⟩ = some (.slice ub um ue) ∧ X.cell? ⟨bx, ox + t * 2, none⟩ = some (.int .i64 N) ∧ X.cell? ⟨bx, ox + t * 2 + 1, none⟩ = some (.int .i64 D) from by
          have h1 := (hX.block g hglt).trans hgb
          exact ⟨by simp [World.cell?, h1], by simp [World.cell?, h1], by simp [World.cell?, h1], (hX.cell (p := ⟨bx, _, none⟩) hbx).trans hx0, (hX.cell (p := ⟨bx, _, none⟩) hbx).trans hx1⟩)
        have htl2 : (t : Int) < (n2 : Int) := by omega
        have HBR := hid hbr
        have HV := hid hone
        have hN1 : -4611686018427387904 ≤ N ∧ N ≤ 4611686018427387904 := by omega
        have hD1 : 0 ≤ D ∧ D ≤ 4611686018427387904 := by omega
        have HN1 := hid hN1
        have HD1 := hid hD1
        have htn : t < 10 := by omega
        clear hv6 hv hsr hbr x1 x2 x3 x4 hND hS hx0 hx1 hxt hgb hrv hone hN1 hD1
        go_wp2
        refine plain_region (fun j' X => decide (j' ≤ 8) = true → X.cell? ⟨g, 0, none⟩ = some (.bool us) ∧ X.cell? ⟨g, 1, none⟩ = some (.slice ua uk uc) ∧ X.cell? ⟨g, 2, none⟩ = some (.slice ub um ue) ∧ X.cell? ⟨bx, ox + t * 2, none⟩ = some (.int .i64 N) ∧ X.cell? ⟨bx, ox + t * 2 + 1, none⟩ = some (.int .i64 D)) (by kernel_rfl) ?_
        have hbd : Below wr.heap.size wr wr.drew := (Below.refl _ _).drew
        generalize wr.drew = wd at hbd ⊢
        refine AnyT.takeD (i := 0) (v := .agg #[.bool us, .slice ua uk uc, .slice ub um ue]) rfl rfl (by kernel_rfl) (by kernel_rfl) (by kernel_rfl) (by first | exact (fun _ _ _ h => h) | exact (fun _ _ _ h => absurd h.1 (by simp))) (by kernel_rfl) (by rfl) (by rintro w' ⟨y1, y2, y3, y4, y5⟩; go_simp) (HS.out _ hbd) ?_; go_frame
        refine AnyT.takeD (i := 1) (v := .int .i64 v) rfl rfl (by kernel_rfl) (by kernel_rfl) (by kernel_rfl) (by first | exact (fun _ _ _ h => h) | exact (fun _ _ _ h => absurd h.1 (by simp))) (by kernel_rfl) (by rfl) (by rintro w' ⟨y1, y2, y3, y4, y5⟩; go_simp) (HS.out _ hbd) ?_; go_frame
        refine AnyT.takeD (i := 2) (v := .slice (some ⟨bx, ox, none⟩) n2 cap2) rfl rfl (by kernel_rfl) (by kernel_rfl) (by kernel_rfl) (by first | exact (fun _ _ _ h => h) | exact (fun _ _ _ h => absurd h.1 (by simp))) (by kernel_rfl) (by rfl) (by rintro w' ⟨y1, y2, y3, y4, y5⟩; go_simp) (HS.out _ hbd) ?_; go_frame
        refine AnyT.takeD (i := 3) (v := .int .i64 t) rfl rfl (by kernel_rfl) (by kernel_rfl) (by kernel_rfl) (by first | exact (fun _ _ _ h => h) | exact (fun _ _ _ h => absurd h.1 (by simp))) (by kernel_rfl) (by rfl) (by rintro w' ⟨y1, y2, y3, y4, y5⟩; go_simp) (HS.out _ hbd) ?_; go_frame
        refine AnyT.takeD (i := 4) (v := .pointer (some ⟨bx, ox + t * 2, none⟩)) rfl rfl (by kernel_rfl) (by kernel_rfl) (by kernel_rfl) (by first | exact (fun _ _ _ h => h) | exact (fun _ _ _ h => absurd h.1 (by simp))) (by kernel_rfl) (by rfl) (by rintro w' ⟨y1, y2, y3, y4, y5⟩; go_simp) (HS.out _ hbd) ?_; go_frame
        refine AnyT.takeD (i := 5) (v := .agg #[.int .i64 N, .int .i64 D]) rfl rfl (by kernel_rfl) (by kernel_rfl) (by kernel_rfl) (by first | exact (fun _ _ _ h => h) | exact (fun _ _ _ h => absurd h.1 (by simp))) (by kernel_rfl) (by rfl) (by rintro w' ⟨y1, y2, y3, y4, y5⟩; go_simp) (HS.out _ hbd) ?_; go_frame
        refine AnyT.next (i := 6) (by kernel_rfl) rfl (wpOp_of_list rfl ?_)
        go_wp2_with (go_at_call 147; refine (exact_v _ N D HN1.out HD1.out).mono ?_; rintro e w4 ⟨v4, rfl, hv4, hb4⟩; refine Stop.of ?_)
        refine Stop.go ?_
        obtain ⟨ps, pa, pk, pc, pb, pm, pe, rfl, _⟩ := hv4.agg
        have HB4 := hid (chain hbd hb4)
        have HV4 := hid hv4
        clear hv4 hb4
        go_wp2
        refine ⟨fun _ => HS.out _ HB4.out, ?_⟩
        refine AnyT.next (i := 7) (by kernel_rfl) rfl (wpOp_of_list rfl ?_)
        go_wp2_with (go_at_call 146; refine (rtimes_v _ v _ 3 N D (by have := HV.out; omega) HV4.out (by omega)).mono ?_; rintro e w5 ⟨v5, rfl, hv5, hb5⟩; refine Stop.of ?_)
        refine Stop.go ?_
        obtain ⟨qs, qa, qk, qc, qb, qm, qe, rfl, _⟩ := hv5.agg
        have HB5 := hid (chain HB4.out hb5)
        have HV5 := hid hv5
        clear hv5 hb5 HV4
        go_wp2
        refine ⟨fun _ => HS.out _ HB5.out, ?_⟩
        refine AnyT.next (i := 8) (by kernel_rfl) rfl (wpOp_of_list rfl ?_)
        go_wp2_with (go_at_call 145; refine (rplus_v _ _ _ (3 + 7 * t) (3 + 3) sn sd (v * N) D (HRV.out _ HB5.out) HV5.out (by omega) (by omega)).mono ?_; rintro e w6 ⟨v6, rfl, hv6, hb6⟩; refine Stop.of ?_)
        refine Stop.go ?_
        obtain ⟨zs, za, zk, zc, zb, zm, ze, e6, hcl, hfz, hlt, hin, _⟩ := (HQB.out _ (chain HB5.out hb6)).store hv6
        subst e6
        have HB6 := hid (chain HBR.out (chain HB5.out hb6))
        have HB7 := hid (chain HB5.out hb6)
        obtain ⟨u0, x0⟩ := hcl 0 (by omega)
        obtain ⟨u1, x1⟩ := hcl 1 (by omega)
        obtain ⟨u2, x2⟩ := hcl 2 (by omega)
        have f0 := hfz 0
        have f1 := hfz 1
        have f2 := hfz 2
        have HIN := hid (hin.le (show 3 + 7 * t + (3 + 3) + 1 ≤ 3 + 7 * (t + 1) by omega))
        have HBE := hid (show Below wa.heap.size wa (((w6.setCell ⟨g, 0, none⟩ (.bool zs)).setCell ⟨g, 1, none⟩ (.slice za zk zc)).setCell ⟨g, 2, none⟩ (.slice zb zm ze)) from below_set (below_set (below_set HB6.out hgs 0 _) hgs 1 _) hgs 2 _)
        clear hcl hfz hin hv6 hb6 HV5
        go_wp2
        refine ⟨fun _ => HS.out _ HB7.out, ?_⟩
        refine AnyT.next (i := 9) (by kernel_rfl) rfl (wpOp_of_list rfl ?_)
        go_wp2
        refine ⟨fun h => absurd h (by decide), ?_⟩
        refine AnyT.done (by kernel_rfl) ?_ _
        go_wp2
        refine ⟨⟨t + 1, by omega, by go_num, ?_, HBE.out⟩, by simp [intOf]; omega⟩
        rw [HSX.out]
        have hin := HIN.out
        have e1 : v * N * sd = sd * (N * v) := by rw [Int.mul_comm v N, Int.mul_comm]
        rw [e1] at hin
        exact hin
    · obtain rfl : t = n := by omega
      have hni : ¬ (t : Int) < (t : Int) := by omega
      obtain ⟨us, ua, uk, uc, ub, um, ue, hgb, hrv⟩ := hrr
      obtain ⟨zs, za, zk, zc, zb, zm, ze, e6, hcl, hfz, hlt, hin, hout⟩ := (HQ0.out _ hbr).store hrv
      cases e6
      obtain ⟨u0, x0⟩ := hcl 0 (by omega)
      obtain ⟨u1, x1⟩ := hcl 1 (by omega)
      obtain ⟨u2, x2⟩ := hcl 2 (by omega)
      have f0 := hfz 0
      have f1 := hfz 1
      have f2 := hfz 2
      have g0 : wr.cell? ⟨g, 0, none⟩ = some (.bool us) := by simp [World.cell?, hgb]
      have g1 : wr.cell? ⟨g, 1, none⟩ = some (.slice ua uk uc) := by simp [World.cell?, hgb]
      have g2 : wr.cell? ⟨g, 2, none⟩ = some (.slice ub um ue) := by simp [World.cell?, hgb]
      have HOUT := hid (hout.le (show 3 + 7 * t ≤ 90 by omega))
      have HFI := hid (HFIN.out _ hbr (.bool us) (.slice ua uk uc) (.slice ub um ue))
      clear hcl hfz hin hout hrv hbr hgb
      go_wp2
      refine bodyPost_ret (v := .agg #[.bool us, .slice ua uk uc, .slice ub um ue]) ?_ rfl ⟨_, rfl, HOUT.out, HFI.out⟩
      simp [results, Try.results107, go_sem, x0, x1, x2, f0, f1, f2, hlt]
end Go.Proofs.Ytfipebkhomppmaa

namespace Go.Proofs.Ytfipebkhomppmaa
open Go.RowKit
set_option linter.unusedVariables false

set_option maxRecDepth 100000 in
theorem r3validR_c (w : World) (N D : Int) : Calls Try.prog 144 #[.agg #[.int .i64 N, .int .i64 D]] w fun e w' => e = .returned (.bool (validR (N, D))) ∧ Below w.heap.size w w' := by
  obtain ⟨wz, hwz⟩ : ∃ wz, wz = w.alloc (.cells #[.int .i64 N, .int .i64 D] 46) := ⟨_, rfl⟩
  have hbz : Below w.heap.size w wz := by rw [hwz]; exact (Below.refl _ _).alloc (Nat.le_refl _) _
  have l0 : wz.cell? ⟨w.heap.size, 0, none⟩ = some (.int .i64 N) := by rw [hwz, World.cell?_alloc_at _ _ _ _ rfl]; rfl
  have l1 : wz.cell? ⟨w.heap.size, 1, none⟩ = some (.int .i64 D) := by rw [hwz, World.cell?_alloc_at _ _ _ _ rfl]; rfl
  have HBZ := hid hbz
  have HV := hid (show validR (N, D) = (decide (1 ≤ D) && (decide (D ≤ 400) && (decide (-10000000000 ≤ N) && (decide (N ≤ 10000000000) && decide (Int.gcd N D = 1))))) from rfl)
  have HW1 := hid (fun (X : World) => r3within_c D 1 400 X)
  have HW2 := hid (fun (X : World) => r3within_c N (-10000000000) 10000000000 X)
  clear hbz
  by_cases h1 : 1 ≤ D ∧ D ≤ 400
  · have e1 : inB D 1 400 = true := by simp [inB, h1.1, h1.2]
    rw [e1] at HW1
    by_cases h3 : -10000000000 ≤ N ∧ N ≤ 10000000000
    · have e2 : inB N (-10000000000) 10000000000 = true := by simp [inB, h3.1, h3.2]
      rw [e2] at HW2
      have HD := hid (fun X => r3divisor_c X N D (by omega) (by omega))
      obtain ⟨g, hg⟩ : ∃ g : Int, g = ((Int.gcd N D : Nat) : Int) := ⟨_, rfl⟩
      rw [← hg] at HD
      have HB := hid (show validR (N, D) = (g == 1) from by
        rw [HV.out, decide_eq_true h1.1, decide_eq_true h1.2, decide_eq_true h3.1, decide_eq_true h3.2]
        simp only [Bool.true_and]
        rw [Bool.eq_iff_iff, decide_eq_true_iff]
        simp only [beq_iff_eq]
        omega)
      clear hg HV e1 e2 h1 h3
      go_enter Try.func144, Try.ntmps144
      go_wp2_with fail
      rw [← hwz]
      clear hwz
      go_wp2_with (go_at_call 96; refine (HW1.out _).mono ?_; rintro e w2 ⟨rfl, rfl⟩; refine Stop.of ?_)
      refine Stop.go ?_
      go_wp2_with (go_at_call 96; refine (HW2.out _).mono ?_; rintro e w2 ⟨rfl, rfl⟩; refine Stop.of ?_)
      refine Stop.go ?_
      go_wp2_with (go_at_call 122; refine (HD.out _).mono ?_; rintro e w2 ⟨rfl, k2, rfl⟩; refine Stop.of ?_)
      refine Stop.go ?_
      go_wp2
      go_ret
      exact ⟨ret_bool (by rw [HB.out]), below_drewN HBZ.out k2⟩
    · have e2 : inB N (-10000000000) 10000000000 = false := by
        rw [inB, Bool.and_eq_false_iff, decide_eq_false_iff_not, decide_eq_false_iff_not]; omega
      rw [e2] at HW2
      have HB := hid (show validR (N, D) = false from by
        cases h : validR (N, D) with
        | false => rfl
        | true => have := validR_iff.1 h; exact absurd ⟨this.2.2.1, this.2.2.2.1⟩ h3)
      clear HV e1 e2 h1 h3
      go_enter Try.func144, Try.ntmps144
      go_wp2_with fail
      rw [← hwz]
      clear hwz
      go_wp2_with (go_at_call 96; refine (HW1.out _).mono ?_; rintro e w2 ⟨rfl, rfl⟩; refine Stop.of ?_)
      refine Stop.go ?_
      go_wp2_with (go_at_call 96; refine (HW2.out _).mono ?_; rintro e w2 ⟨rfl, rfl⟩; refine Stop.of ?_)
      refine Stop.go ?_
      go_wp2
      go_ret
      exact ⟨ret_bool (by rw [HB.out]), HBZ.out⟩
  · have e1 : inB D 1 400 = false := by
      rw [inB, Bool.and_eq_false_iff, decide_eq_false_iff_not, decide_eq_false_iff_not]; omega
    rw [e1] at HW1
    have HB := hid (show validR (N, D) = false from by
      cases h : validR (N, D) with
      | false => rfl
      | true => have := validR_iff.1 h; exact absurd ⟨this.1, this.2.1⟩ h1)
    clear HV e1 h1 HW2
    go_enter Try.func144, Try.ntmps144
    go_wp2_with fail
    rw [← hwz]
    clear hwz
    go_wp2_with (go_at_call 96; refine (HW1.out _).mono ?_; rintro e w2 ⟨rfl, rfl⟩; refine Stop.of ?_)
    refine Stop.go ?_
    go_wp2
    go_ret
    exact ⟨ret_bool (by rw [HB.out]), HBZ.out⟩

set_option maxRecDepth 100000 in
set_option maxHeartbeats 1000000 in
theorem r3validRs_c (w : World) (a : Option Addr) (n cap : Nat) (l : List Rt) (hn : l.length = n) (hm : n ≤ maxLen) (H : RatsAt w a l) :
    Calls Try.prog 105 #[.slice a n cap] w fun e w' => e = .returned (.bool (l.all validR)) ∧ Below w.heap.size w w' := by
  have HN := hid hn
  have HH := hid H
  have HP := hid (fun (X : World) (N D : Int) => r3validR_c X N D)
  have HST := hid (fun (k : Nat) (hk : k < l.length) (h : validR l[k] = false) => all_stop (p := validR) hk h)
  have HDN := hid (fun (h : ∀ j (hj : j < l.length), validR l[j] = true) => all_done (p := validR) h)
  obtain ⟨B, hB⟩ : ∃ B, B = l.all validR := ⟨_, rfl⟩
  rw [← hB] at HST HDN ⊢
  clear hn H hB
  unfold maxLen at hm
  go_enter Try.func105, Try.ntmps105
  go_wp2
  go_loopw [7] (fun i wr => ∃ k : Nat, k ≤ n ∧ i = .int .i64 k ∧ Below w.heap.size w wr ∧ Hid (∀ j (hj : j < l.length), j < k → validR l[j] = true)) (fun i _ => n - (intOf i).toNat)
  case atStart => exact ⟨0, Nat.zero_le _, rfl, Below.refl _ _, hid (fun i y h => by omega)⟩
  case round =>
    obtain ⟨k, hk, rfl, hb, HNO⟩ := hrel
    by_cases hlt : k < n
    · have hkl : k < l.length := by rw [HN.out]; exact hlt
      obtain ⟨b, off, rfl, hbs, h0, h1⟩ := (HH.out.below hb) k hkl
      have HSK := hid (HST.out k hkl)
      have HNX := hid (fun (h : validR l[k] = true) => show ∀ j (hj : j < l.length), j < k + 1 → validR l[j] = true from fun j hj hjk => by
        by_cases e : j = k
        · subst e; exact h
        · exact HNO.out j hj (by omega))
      obtain ⟨⟨r1, r2⟩, hr⟩ : ∃ r, r = l[k]'hkl := ⟨_, rfl⟩
      rw [← hr] at h0 h1 HSK HNX
      simp only [] at h0 h1
      obtain ⟨V, hV⟩ : ∃ V, V = validR (r1, r2) := ⟨_, rfl⟩
      have HC := hid (fun (X : World) => HP.out X r1 r2)
      rw [← hV] at HC HSK HNX
      have HB := hid hb
      clear hr hV hkl hb HNO
      have i1 : (k : Int) < (n : Int) := by omega
      go_wp2_with (go_at_call 144; refine (HC.out _).mono ?_; rintro e w1 ⟨rfl, hb1⟩; refine Stop.of ?_)
      refine Stop.go ?_
      have HB1 := hid (show Below w.heap.size w w1 from HB.out.trans ((((Below.refl _ wr).alloc (Nat.le_refl _) (.cells #[.int .i64 r1, .int .i64 r2] 46)).trans (hb1.mono (by simp))).mono HB.out.size))
      clear hb1 HC
      cases V
      · obtain rfl : B = false := HSK.out rfl
        go_wp2
        go_ret
        exact ⟨rfl, HB1.out⟩
      · have HX := hid (HNX.out rfl)
        go_wp2
        exact ⟨⟨k + 1, by omega, by go_num, HB1.out, HX⟩, by simp [intOf]; omega⟩
    · obtain rfl : k = n := by omega
      obtain rfl : B = true := HDN.out fun j hj => HNO.out j hj (by have := HN.out; omega)
      go_wp2
      go_ret
      exact ⟨rfl, hb⟩

set_option maxRecDepth 100000 in
set_option maxHeartbeats 4000000 in
theorem r3makes_c (w : World) (a a2 a3 : Option Addr) (n cap n2 cap2 n3 cap3 : Nat) (M : Mask) (x : List Rt) (y : List Int) (hn : M.length = n) (hn2 : x.length = n2) (hn3 : y.length = n3) (hm : n ≤ maxLen) (hm2 : n2 ≤ maxLen) (hm3 : n3 ≤ maxLen) (H : RowsAt w a M) (H2 : RatsAt w a2 x) (H3 : IntsAt w a3 y) :
    Calls Try.prog 51 #[.slice a n cap, .slice a2 n2 cap2, .slice a3 n3 cap3] w fun e w' => e = .returned (.bool (makesB M x y)) ∧ Below w.heap.size w w' := by
  have HRD := hid (r3Reading_c w a a3 n cap n3 cap3 M y hn hn3 hm hm3 H H3)
  have HN1 := hid (mk_no1 (M := M) (x := x) (y := y))
  have HN2 := hid (mk_no2 (M := M) (x := x) (y := y))
  have HN3 := hid (mk_no3 (M := M) (x := x) (y := y))
  obtain ⟨B, hB⟩ : ∃ B, B = makesB M x y := ⟨_, rfl⟩
  rw [← hB] at HN1 HN2 HN3 ⊢
  by_cases h0 : rdE M y = 0
  rotate_left
  · rw [decide_eq_false h0] at HRD
    obtain rfl : B = false := HN1.out h0
    clear hn hn2 hn3 H H2 H3 hB h0 HN2 HN3
    go_enter Try.func51, Try.ntmps51
    go_wp2_with (go_at_call 49; refine HRD.out.mono ?_; rintro e w1 ⟨rfl, rfl⟩)
    go_ret
    exact ⟨rfl, Below.refl _ _⟩
  rw [decide_eq_true h0] at HRD
  obtain ⟨hok, hyl, hmil⟩ := rd_ok h0
  obtain ⟨hM, h1, h6, hc1, hc10⟩ := okM_ok hok
  obtain ⟨b, off, ra, rc, rfl, hb, hc⟩ := rows_head H (by omega)
  have HN4 := hid (fun i (hi : i < M.length) h => mk_no4 (x := x) (y := y) hi h)
  have HYS := hid (fun h2 h3 h4 => mk_yes (M := M) (x := x) (y := y) h0 h2 h3 h4)
  rw [← hB] at HYS HN4
  have i0 : (0 : Int) < (n : Int) := by omega
  have HCI := hid (fun (X : World) (hX : Below w.heap.size w X) => r3validRs_c X a2 n2 cap2 x hn2 hm2 (H2.below hX))
  have HRW := hid (fun (X : World) (hX : Below w.heap.size w X) => H.below hX)
  have HXI := hid (fun (X : World) (hX : Below w.heap.size w X) => H2.below hX)
  have HYI := hid (fun (X : World) (hX : Below w.heap.size w X) => H3.below hX)
  have HMW := hid (show ∀ r ∈ M, r.length = colsM M ∧ ∀ k, -1 ≤ vec r k ∧ vec r k ≤ 1 from fun r hr => ⟨hM.wid r hr, hM.one r hr⟩)
  have HYB := hid (mil_le hmil)
  have HN := hid hn
  have HNX := hid hn2
  have HNY := hid hn3
  have HHN := hid (show n3 = n by omega)
  have hn6 : n ≤ 6 := by omega
  obtain ⟨W, hW⟩ : ∃ W, W = colsM M := ⟨_, rfl⟩
  rw [← hW] at hc HN2 HN4 HYS HMW hc10 hc1
  clear hn hn2 hn3 H H2 H3 hB h0 hok hyl hmil hM h1 h6 HN1 hW
  by_cases hlw : n2 = W
  rotate_left
  · obtain rfl : B = false := HN2.out (by rw [HNX.out]; exact hlw)
    have hlb : ((n2 : Int) != (W : Int)) = true := by simp; omega
    clear HN3 HN4 HYS HCI HRW HXI HYI HMW HYB
    go_enter Try.func51, Try.ntmps51
    go_wp2_with (go_at_call 49; refine HRD.out.mono ?_; rintro e w1 ⟨rfl, rfl⟩; refine Stop.of ?_)
    refine Stop.go ?_
    go_wp2
    go_ret
    exact ⟨rfl, Below.refl _ _⟩
  subst hlw
  have hlb : ((n2 : Int) != (n2 : Int)) = false := by simp
  obtain ⟨V, hV⟩ : ∃ V, V = x.all validR := ⟨_, rfl⟩
  rw [← hV] at HCI
  have HVV := hid hV.symm
  have HCI1 := hid (HCI.out _ (Below.refl _ _))
  clear hV HCI
  go_enter Try.func51, Try.ntmps51
  go_wp2_with (go_at_call 49; refine HRD.out.mono ?_; rintro e w1 ⟨rfl, rfl⟩; refine Stop.of ?_)
  refine Stop.go ?_
  go_wp2_with (go_at_call 105; refine HCI1.out.mono ?_; rintro e w2 ⟨rfl, hb2⟩; refine Stop.of ?_)
  refine Stop.go ?_
  have HB2 := hid hb2
  clear hb2 HCI1 hc HRD
  cases V
  · obtain rfl : B = false := HN3.out HVV.out
    go_wp2
    go_ret
    exact ⟨rfl, HB2.out⟩
  · have hall : x.all validR = true := HVV.out
    have hxv : ∀ k, 1 ≤ (ratAt x k).2 ∧ (ratAt x k).2 ≤ 400 ∧ -10000000000 ≤ (ratAt x k).1 ∧ (ratAt x k).1 ≤ 10000000000 := fun k => by
      unfold ratAt
      cases e : x[k]? with
      | none => decide
      | some r =>
        have := List.all_eq_true.1 hall r (List.mem_of_getElem? e)
        rw [validR_iff] at this
        exact ⟨this.1, this.2.1, this.2.2.1, this.2.2.2.1⟩
    have HXV := hid hxv
    have HYS2 := hid (HYS.out HNX.out hall)
    clear hall hxv HN2 HN3 HYS HVV
    go_wp2
    go_loopw [29] (fun i wr => ∃ k : Nat, k ≤ n ∧ i = .int .i64 k ∧ Below w.heap.size w wr ∧ Hid (∀ q, q < k → (sumR (M[q]?.getD []) x n2).1 = (sumR (M[q]?.getD []) x n2).2 * vec y q)) (fun i _ => n - (intOf i).toNat)
    case atStart => exact ⟨0, Nat.zero_le _, rfl, HB2.out, hid (fun q h => by omega)⟩
    case round =>
      obtain ⟨k, hk, rfl, hbk, HQ⟩ := hrel
      by_cases hlt : k < n
      · have hkM : k < M.length := by rw [HN.out]; exact hlt
        obtain ⟨b5, o5, ra5, rn5, rc5, e5, hb5, hc5, hrn5, hrm5, hri5⟩ := (HRW.out wr hbk) k hkM
        cases e5
        obtain ⟨hwid, hone⟩ := HMW.out _ (List.getElem_mem hkM)
        obtain rfl : rn5 = n2 := by omega
        have hrowe : M[k]?.getD [] = M[k] := by rw [List.getElem?_eq_getElem hkM]; rfl
        have HNK := hid (HN4.out k hkM)
        rw [hrowe] at HNK
        have HQX := hid (fun (h : (sumR M[k] x rn5).1 = (sumR M[k] x rn5).2 * vec y k) => show ∀ q, q < k + 1 → (sumR (M[q]?.getD []) x rn5).1 = (sumR (M[q]?.getD []) x rn5).2 * vec y q from fun q hq => by
          rcases Nat.lt_or_ge q k with h3 | h3
          · exact HQ.out q h3
          · obtain rfl : q = k := by omega
            rw [hrowe]; exact h)
        have HSE := hid (fun (X : World) (hX : Below wr.heap.size wr X) => sees_c X ra5 a2 rn5 rc5 rn5 cap2 M[k] x hrn5 HNX.out (Nat.le_refl _) (by omega) (hri5.below hX) (HXI.out X (chain hbk hX)) (fun j => by have := hone j; omega) (fun j => by have := HXV.out j; omega))
        have hkY : k < y.length := by rw [HNY.out, HHN.out]; exact hlt
        obtain ⟨by7, oy7, rfl, hby, hcy⟩ := (HYI.out wr hbk) k hkY
        have hvy : y[k]?.getD 0 = vec y k := rfl
        rw [hvy] at hcy
        have hyb := vec_mem (P := fun z => -1000000 ≤ z ∧ z ≤ 1000000) (by decide) HYB.out k
        obtain ⟨yv, hyv⟩ : ∃ v, v = vec y k := ⟨_, rfl⟩
        rw [← hyv] at hcy hyb HNK HQX
        obtain ⟨⟨sn, sd⟩, hS⟩ : ∃ q, q = sumR M[k] x rn5 := ⟨_, rfl⟩
        rw [← hS] at HNK HQX HSE
        simp only [] at HNK HQX HSE
        have HWH := hid (fun (X : World) => whole_v X yv (by omega))
        obtain ⟨cv, hcv⟩ : ∃ c, c = cmpI sn (yv * sd) := ⟨_, rfl⟩
        have HCZ := hid (show (cv = 0 ↔ sn = sd * yv) from by rw [hcv, Int.mul_comm yv sd]; unfold cmpI; split <;> (try split) <;> omega)
        have HOR := hid (fun (X : World) (v u : Value) (h : RatV X v 90 sn sd) (k : RatV X u 3 yv 1) => show Calls Try.prog 106 #[v, u] X (fun e' w' => e' = .returned (.int .i64 cv) ∧ Below X.heap.size X w') from by
          have := rorder_v X v u 90 3 sn sd yv 1 h k (by omega) (by omega)
          rwa [Int.mul_one, ← hcv] at this)
        have HS := hid (fun (X : World) (hX : Below wr.heap.size wr X) => show X.cell? ⟨by7, oy7 + k, none⟩ = some (.int .i64 yv) from (hX.cell (p := ⟨by7, _, none⟩) hby).trans hcy)
        have HBK := hid hbk
        have i1 : (k : Int) < (n : Int) := by omega
        have i3 : (k : Int) < (n3 : Int) := by have := HHN.out; omega
        clear hrowe hri5 hrn5 hkM hone hwid hbk HN4 HQ hS hyv hkY hvy hyb hcv hcy
        go_wp2
        refine plain_region (fun j' X => wAll j' = true → X.cell? ⟨by7, oy7 + k, none⟩ = some (.int .i64 yv)) (by kernel_rfl) ?_
        have hbd : Below wr.heap.size wr wr.drew := (Below.refl _ _).drew
        generalize wr.drew = wd at hbd ⊢
        refine AnyT.takeD (i := 0) (v := .slice ra5 rn5 rc5) rfl rfl (by kernel_rfl) (by kernel_rfl) (by kernel_rfl) (by first | exact (fun _ _ _ h => h) | exact (fun _ _ _ h => absurd h.1 (by simp))) (by kernel_rfl) (by rfl) (by rintro w' y1; go_simp) (HS.out _ hbd) ?_; go_frame
        refine AnyT.takeD (i := 1) (v := .slice a2 rn5 cap2) rfl rfl (by kernel_rfl) (by kernel_rfl) (by kernel_rfl) (by first | exact (fun _ _ _ h => h) | exact (fun _ _ _ h => absurd h.1 (by simp))) (by kernel_rfl) (by rfl) (by rintro w' y1; go_simp) (HS.out _ hbd) ?_; go_frame
        refine AnyT.takeD (i := 3) (v := .slice (some ⟨by7, oy7, none⟩) n3 cap3) rfl rfl (by kernel_rfl) (by kernel_rfl) (by kernel_rfl) (by first | exact (fun _ _ _ h => h) | exact (fun _ _ _ h => absurd h.1 (by simp))) (by kernel_rfl) (by rfl) (by rintro w' y1; go_simp) (HS.out _ hbd) ?_; go_frame
        refine AnyT.takeD (i := 4) (v := .int .i64 k) rfl rfl (by kernel_rfl) (by kernel_rfl) (by kernel_rfl) (by first | exact (fun _ _ _ h => h) | exact (fun _ _ _ h => absurd h.1 (by simp))) (by kernel_rfl) (by rfl) (by rintro w' y1; go_simp) (HS.out _ hbd) ?_; go_frame
        refine AnyT.takeD (i := 5) (v := .pointer (some ⟨by7, oy7 + k, none⟩)) rfl rfl (by kernel_rfl) (by kernel_rfl) (by kernel_rfl) (by first | exact (fun _ _ _ h => h) | exact (fun _ _ _ h => absurd h.1 (by simp))) (by kernel_rfl) (by rfl) (by rintro w' y1; go_simp) (HS.out _ hbd) ?_; go_frame
        refine AnyT.takeD (i := 6) (v := .int .i64 yv) rfl rfl (by kernel_rfl) (by kernel_rfl) (by kernel_rfl) (by first | exact (fun _ _ _ h => h) | exact (fun _ _ _ h => absurd h.1 (by simp))) (by kernel_rfl) (by rfl) (by rintro w' y1; go_simp) (HS.out _ hbd) ?_; go_frame
        refine AnyT.next (i := 2) (by kernel_rfl) rfl (wpOp_of_list rfl ?_)
        go_wp2_with (go_at_call 107; refine (HSE.out _ hbd).mono ?_; rintro e w4 ⟨v4, rfl, hv4, hb4⟩; refine Stop.of ?_)
        refine Stop.go ?_
        have HB4 := hid (chain hbd hb4)
        have HV4 := hid hv4
        clear hv4 hb4 HSE
        go_wp2
        refine ⟨fun _ => HS.out _ HB4.out, ?_⟩
        refine AnyT.next (i := 7) (by kernel_rfl) rfl (wpOp_of_list rfl ?_)
        go_wp2_with (go_at_call 108; refine (HWH.out _).mono ?_; rintro e w5 ⟨v5, rfl, hv5, hb5⟩; refine Stop.of ?_)
        refine Stop.go ?_
        have HB5 := hid (chain HB4.out hb5)
        have HV5 := hid hv5
        have HV6 := hid (HV4.out.below hb5)
        clear hv5 hb5 HWH HV4
        go_wp2
        refine ⟨fun _ => HS.out _ HB5.out, ?_⟩
        refine AnyT.next (i := 8) (by kernel_rfl) rfl (wpOp_of_list rfl ?_)
        go_wp2_with (go_at_call 106; refine (HOR.out _ _ _ HV6.out HV5.out).mono ?_; rintro e w6 ⟨rfl, hb6⟩; refine Stop.of ?_)
        refine Stop.go ?_
        have HB6 := hid (chain HBK.out (chain HB5.out hb6))
        have HS6 := hid (HS.out _ (chain HB5.out hb6))
        clear hb6 HV5 HV6
        go_wp2
        refine ⟨fun _ => HS6.out, ?_⟩
        refine AnyT.next (i := 9) (by kernel_rfl) rfl (wpOp_of_list rfl ?_)
        go_wp2
        refine ⟨fun _ => HS6.out, ?_⟩
        refine AnyT.done (by kernel_rfl) ?_ _
        by_cases hc0 : cv = 0
        · have hcb : (cv != 0) = false := by simp [hc0]
          have HX := hid (HQX.out (HCZ.out.1 hc0))
          go_wp2
          exact ⟨⟨k + 1, by omega, by go_num, HB6.out, HX⟩, by simp [intOf]; omega⟩
        · have hcb : (cv != 0) = true := by simp [hc0]
          obtain rfl : B = false := HNK.out (fun h => hc0 (HCZ.out.2 h))
          go_wp2
          go_ret
          exact ⟨rfl, HB6.out⟩
      · obtain rfl : k = n := by omega
        obtain rfl : B = true := HYS2.out (fun i hi => HQ.out i (by have := HN.out; omega))
        go_wp2
        go_ret
        exact ⟨rfl, hbk⟩
end Go.Proofs.Ytfipebkhomppmaa

namespace Go.Proofs.Ytfipebkhomppmaa
open Go.ChangeShapes Go.WideShapes Go.ChangeAt Go.RowKit Go.Deep
set_option linter.unusedVariables false

def Fits64 (n : Int) : Prop := -9223372036854775808 ≤ n ∧ n ≤ 9223372036854775807
theorem fits64 {n : Int} (h : (Lit.int .i64 n).wf = true) : Fits64 n := by
  simpa [Fits64, Lit.wf, IntKind.min, IntKind.max, IntKind.signed, IntKind.bits] using h

theorem cell_plain {w : World} {a : Addr} {v : Value} (h : w.cell? a = some v) : a = ⟨a.block, a.off, none⟩ ∧ a.block < w.heap.size := by
  unfold World.cell? at h
  split at h
  · rename_i c _ _ hb
    obtain ⟨b, o, s⟩ := a
    cases s with
    | none => exact ⟨rfl, (Array.getElem?_eq_some_iff.1 hb).1⟩
    | some s => simp at h
  · simp at h

theorem add_plain (b o : Nat) (i : Nat) : (Addr.mk b o none).add i = ⟨b, o + i, none⟩ := by
  unfold Addr.add
  split
  · rename_i h; rw [h]; rfl
  · rfl

section
variable {H : Type} {enc : TypeId × Value → H} {P : Program} {w : World} {base : Nat} {held : Bool}

theorem ints_opened {e q : TypeId} {fuel : Nat} {a : Option Addr} {n cap : Nat} {x : DataW H × List MemPlace} (he : P.underlying e = some (.slice q)) (hq : P.underlying q = some (.int .i64)) (cq : P.cellsOf q = 1)
    (h : DataW.trod enc P w base (fun _ => true) held fuel e [.slice a n cap] = some x) : ∃ l : List Int, l.length = n ∧ n ≤ maxLen ∧ IntsAt w a l ∧ ∀ y ∈ l, Fits64 y := by
  rcases open_ints he hq cq h with ⟨hcs, _⟩ | ⟨x, l, c, zs, hcs, _, hl, hm, hz, _, hcell, hwz⟩
  · simp at hcs
    obtain ⟨rfl, rfl, rfl⟩ := hcs
    exact ⟨[], rfl, by decide, fun j hj => by simp at hj, fun y hy => by simp at hy⟩
  · simp at hcs
    obtain ⟨rfl, rfl, rfl⟩ := hcs
    simp only [if_true] at hz
    refine ⟨zs.take n, by rw [List.length_take]; omega, by omega, fun j hj => ?_, fun y hy => fits64 (hwz y (List.mem_of_mem_take hy))⟩
    rw [List.length_take] at hj
    have h0 := cell_plain (hcell 0 (by omega))
    simp only [Addr.add, if_true] at h0
    obtain ⟨b, o, s⟩ := x
    have hs : s = none := by have := h0.1; simp at this; exact this
    subst hs
    refine ⟨b, o, rfl, h0.2, ?_⟩
    have := hcell j (by omega)
    rw [add_plain] at this
    rw [this]
    simp [List.getElem?_take, show j < n by omega, List.getD]

theorem arg_ints {r : Reach} {b0 : Nat} {e q : TypeId} {v : Value} {d : DataW H} {p : List MemPlace} (he : P.underlying e = some (.slice q)) (hq : P.underlying q = some (.int .i64)) (cq : P.cellsOf q = 1)
    (hv : Value.okWide P w r b0 e v) (h : DataW.Trod enc P w base (fun _ => true) held e v d p) : ∃ a n cap, ∃ l : List Int, v = .slice a n cap ∧ l.length = n ∧ n ≤ maxLen ∧ IntsAt w a l ∧ ∀ y ∈ l, Fits64 y := by
  obtain ⟨a, n, cap, rfl⟩ := okWide_slice he hv
  obtain ⟨fuel, hf⟩ := h
  obtain ⟨l, h1, h2, h3, h4⟩ := ints_opened he hq cq (by simpa [Value.cells] using hf)
  exact ⟨a, n, cap, l, rfl, h1, h2, h3, h4⟩

theorem arg_rows {r : Reach} {b0 : Nat} {t e q : TypeId} {v : Value} {d : DataW H} {p : List MemPlace} (ht : P.underlying t = some (.slice e)) (ce : P.cellsOf e = 1) (he : P.underlying e = some (.slice q)) (hq : P.underlying q = some (.int .i64)) (cq : P.cellsOf q = 1)
    (hv : Value.okWide P w r b0 t v) (h : DataW.Trod enc P w base (fun _ => true) held t v d p) : ∃ a n cap, ∃ l : List (List Int), v = .slice a n cap ∧ l.length = n ∧ n ≤ maxLen ∧ RowsAt w a l ∧ ∀ y ∈ l, ∀ z ∈ y, Fits64 z := by
  obtain ⟨a, n, cap, rfl⟩ := okWide_slice ht hv
  obtain ⟨fuel, hf⟩ := h
  rcases open_slice1 ht ce (by simpa [Value.cells] using hf) with ⟨hcs, _⟩ | ⟨x, len, c', m, nn, V, D, Pl, hcs, _, hl, hm, hmm, _, hx⟩
  · simp at hcs
    obtain ⟨rfl, rfl, rfl⟩ := hcs
    exact ⟨none, 0, 0, [], rfl, rfl, by decide, fun j hj => by simp at hj, fun y hy => by simp at hy⟩
  simp at hcs
  obtain ⟨rfl, rfl, rfl⟩ := hcs
  simp only [if_true] at hmm
  have each : ∀ i, i < n → ∃ y : List Int × Option Addr × Nat × Nat, w.cell? (x.add i) = some (.slice y.2.1 y.2.2.1 y.2.2.2) ∧ y.1.length = y.2.2.1 ∧ y.2.2.1 ≤ maxLen ∧ IntsAt w y.2.1 y.1 ∧ (∀ z ∈ y.1, Fits64 z) := by
    intro i hi
    obtain ⟨hc, t0⟩ := hx i (by omega)
    have hsl : ∃ ra rn rc, V i = .slice ra rn rc := by
      rcases open_ints he hq cq t0 with ⟨hcs, _⟩ | ⟨x, l, c, zs, hcs, _⟩
      · simp at hcs; exact ⟨_, _, _, hcs⟩
      · simp at hcs; exact ⟨_, _, _, hcs⟩
    obtain ⟨ra, rn, rc, hV⟩ := hsl
    rw [hV] at hc t0
    obtain ⟨l, q1, q2, q3, q4⟩ := ints_opened he hq cq t0
    exact ⟨(l, ra, rn, rc), hc, q1, q2, q3, q4⟩
  haveI : Inhabited (List Int × Option Addr × Nat × Nat) := ⟨([], none, 0, 0)⟩
  obtain ⟨y, hy⟩ := choose_lt each
  refine ⟨some x, n, cap, (List.range n).map fun i => (y i).1, rfl, by simp, by omega, fun j hj => ?_, fun z hz => ?_⟩
  · have hjn : j < n := by simpa using hj
    have hp := cell_plain (hy 0 (by omega)).1
    simp only [Addr.add, if_true] at hp
    obtain ⟨b, o, s⟩ := x
    have hs' : s = none := by have := hp.1; simp at this; exact this
    subst hs'
    obtain ⟨r0, r3, r4, r5, r6⟩ := hy j hjn
    rw [add_plain] at r0
    refine ⟨b, o, (y j).2.1, (y j).2.2.1, (y j).2.2.2, rfl, hp.2, r0, ?_, r4, ?_⟩ <;> simp only [List.getElem_map, List.getElem_range] <;> assumption
  · obtain ⟨i, hi, rfl⟩ := List.mem_map.1 hz
    exact (hy i (List.mem_range.1 hi)).2.2.2.2
end
end Go.Proofs.Ytfipebkhomppmaa

namespace Go.Proofs.Ytfipebkhomppmaa
open Go.ChangeShapes Go.WideShapes Go.ChangeAt Go.RowKit Go.Deep
set_option linter.unusedVariables false

section
variable {H : Type} {enc : TypeId × Value → H} {P : Program} {w : World} {base : Nat} {held : Bool}
theorem arg_ratios {r : Reach} {b0 : Nat} {t c : TypeId} {f0 f1 : Field} {v : Value} {d : DataW H} {p : List MemPlace} (ht : P.underlying t = some (.slice c)) (hs : P.underlying c = some (.struct #[f0, f1])) (hone : oneCellFields P #[f0, f1] = true) (hC : P.cellsOf c = 2)
    (h0 : P.underlying f0.type = some (.int .i64)) (h1 : P.underlying f1.type = some (.int .i64))
    (hv : Value.okWide P w r b0 t v) (h : DataW.Trod enc P w base (fun _ => true) held t v d p) : ∃ a n cap, ∃ l : List Rt, v = .slice a n cap ∧ l.length = n ∧ n ≤ maxLen ∧ RatsAt w a l ∧ ∀ y ∈ l, Fits64 y.1 ∧ Fits64 y.2 := by
  obtain ⟨a, n, cap, rfl⟩ := okWide_slice ht hv
  obtain ⟨fuel, hf⟩ := h
  rcases open_slice ht (by simpa [Value.cells] using hf) with ⟨hcs, _⟩ | ⟨x, len, c', m, nn, D, Pl, hcs, _, hl, hm, hmm, _, hx⟩
  · simp at hcs
    obtain ⟨rfl, rfl, rfl⟩ := hcs
    exact ⟨none, 0, 0, [], rfl, rfl, by decide, fun j hj => by simp at hj, fun y hy => by simp at hy⟩
  simp at hcs
  obtain ⟨rfl, rfl, rfl⟩ := hcs
  simp only [if_true] at hmm
  obtain ⟨o0, k0⟩ := hone_of hone 0 f0 rfl
  obtain ⟨o1, k1⟩ := hone_of hone 1 f1 rfl
  have each : ∀ i, i < n → ∃ y : Rt, w.cell? (x.add (i * 2)) = some (.int .i64 y.1) ∧ w.cell? ((x.add (i * 2)).add 1) = some (.int .i64 y.2) ∧ Fits64 y.1 ∧ Fits64 y.2 := by
    intro i hi
    obtain ⟨cs', hc, htr⟩ := hx i (by omega)
    rw [hC] at hc
    obtain ⟨_, hlen, hcell⟩ := World.cells?_some hc
    match cs', hlen with
    | [c0, c1], _ =>
      obtain ⟨y0, y1, n', _, _, t0, t1⟩ := trod_struct2 hs htr
      rw [o0, k0] at t0
      rw [o1, k1] at t1
      simp at t0 t1
      obtain ⟨z0, e0, _, w0⟩ := DataW.trod_int h0 t0
      obtain ⟨z1, e1, _, w1⟩ := DataW.trod_int h1 t1
      simp at e0 e1
      subst e0; subst e1
      have hc0 := hcell 0 (by omega)
      rw [show (x.add (i * 2)).add 0 = x.add (i * 2) from rfl] at hc0
      exact ⟨(z0, z1), by simpa using hc0, by simpa using hcell 1 (by omega), fits64 w0, fits64 w1⟩
  haveI : Inhabited Rt := ⟨(0, 0)⟩
  obtain ⟨y, hy⟩ := choose_lt each
  refine ⟨some x, n, cap, (List.range n).map fun i => y i, rfl, by simp, by omega, fun j hj => ?_, fun z hz => ?_⟩
  · have hjn : j < n := by simpa using hj
    have hp := cell_plain (hy 0 (by omega)).1
    simp only [Addr.add, Nat.zero_mul, if_true] at hp
    obtain ⟨b, o, s⟩ := x
    have hs' : s = none := by have := hp.1; simp at this; exact this
    subst hs'
    obtain ⟨r0, r1, r2, r3⟩ := hy j hjn
    rw [add_plain] at r0 r1
    rw [add_plain] at r1
    refine ⟨b, o, rfl, hp.2, ?_, ?_⟩ <;> simp only [List.getElem_map, List.getElem_range] <;> assumption
  · obtain ⟨i, hi, rfl⟩ := List.mem_map.1 hz
    obtain ⟨r0, r1, r2, r3⟩ := hy i (List.mem_range.1 hi)
    exact ⟨r2, r3⟩
end
end Go.Proofs.Ytfipebkhomppmaa

namespace Go.Proofs.Ytfipebkhomppmaa
open Go.RowKit
set_option linter.unusedVariables false

set_option maxRecDepth 100000 in
set_option maxHeartbeats 4000000 in
theorem linMakes_c (w : World) (a : Option Addr) (n cap : Nat) (M : Mask) (hn : M.length = n) (hm : n ≤ maxLen) (H : RowsAt w a M) (_ : ∀ y ∈ M, ∀ z ∈ y, Fits64 z)
    (a4 : Option Addr) (n4 cap4 : Nat) (x : List Rt) (hn4 : x.length = n4) (hm4 : n4 ≤ maxLen) (H4 : RatsAt w a4 x) (_ : ∀ r ∈ x, Fits64 r.1 ∧ Fits64 r.2)
    (a2 : Option Addr) (n2 cap2 : Nat) (y : List Int) (hn2 : y.length = n2) (hm2 : n2 ≤ maxLen) (H2 : IntsAt w a2 y) (_ : ∀ z ∈ y, Fits64 z) :
    Calls Try.prog 10 #[.slice a n cap, .slice a4 n4 cap4, .slice a2 n2 cap2] w fun e w' => e = .returned (.bool true) ∧ Below w.heap.size w w' := by
  have HAW := hid (fun X => awake_c X)
  have HSM := hid (small_c w a n cap M hn hm H a4 n4 cap4)
  have HLG := hid (long_c (w.alloc (.cells #[.slice a2 n2 cap2] 31)) (some ⟨w.heap.size, 0, none⟩) 1 1 [y] rfl (by decide) (rows_one hn2 hm2 H2))
  have HB1 := hid (show Below w.heap.size w (w.alloc (.cells #[.slice a2 n2 cap2] 31)) from (Below.refl _ _).alloc (Nat.le_refl _) _)
  have HR1 := hid (fun (X : World) (hX : Below w.heap.size w X) => lreading_c X a a2 n cap n2 cap2 M y hn hn2 hm hm2 (H.below hX) (H2.below hX))
  have HR2 := hid (fun (X : World) (hX : Below w.heap.size w X) => r3Reading_c X a a2 n cap n2 cap2 M y hn hn2 hm hm2 (H.below hX) (H2.below hX))
  have HM1 := hid (fun (X : World) (hX : Below w.heap.size w X) => lmakes_c X a a4 a2 n cap n4 cap4 n2 cap2 M x y hn hn4 hn2 hm hm4 hm2 (H.below hX) (H4.below hX) (H2.below hX))
  have HM2 := hid (fun (X : World) (hX : Below w.heap.size w X) => r3makes_c X a a4 a2 n cap n4 cap4 n2 cap2 M x y hn hn4 hn2 hm hm4 hm2 (H.below hX) (H4.below hX) (H2.below hX))
  obtain ⟨B0, hB0⟩ : ∃ B, B = longB [y] := ⟨_, rfl⟩
  rw [← hB0] at HLG
  obtain ⟨rb, hrb⟩ : ∃ B, B = decide (rdE M y = 0) := ⟨_, rfl⟩
  rw [← hrb] at HR1 HR2
  obtain ⟨mb, hmb⟩ : ∃ B, B = makesB M x y := ⟨_, rfl⟩
  rw [← hmb] at HM1 HM2
  have hrr : (rb == rb) = true := by cases rb <;> rfl
  have hmm : (mb == mb) = true := by cases mb <;> rfl
  clear hn hn2 hn4 H H2 H4 hB0 hrb hmb
  go_enter Try.func10, Try.ntmps10
  go_wp2_with (go_at_call 23; refine HSM.out.mono ?_; rintro e w1 ⟨⟨sb, rfl⟩, rfl⟩; refine Stop.of ?_)
  refine Stop.go ?_
  cases sb
  · go_wp2_with (go_at_call 14; refine (HAW.out _).mono ?_; rintro e w2 ⟨rfl, hb2⟩)
    go_ret
    exact ⟨rfl, hb2⟩
  · go_wp2_with (go_at_call 24; refine HLG.out.mono ?_; rintro e w2 ⟨rfl, hw2⟩; refine Stop.of ?_)
    refine Stop.go ?_
    rw [hw2] at HB1
    clear hw2 HLG HSM
    cases B0
    · go_wp2_with (go_at_call 48; refine (HR1.out _ HB1.out).mono ?_; rintro e w3 ⟨rfl, hb3⟩; refine Stop.of ?_)
      refine Stop.go ?_
      have HB3 := hid (chain HB1.out hb3)
      clear hb3 HB1 HR1
      go_wp2_with (go_at_call 49; refine (HR2.out _ HB3.out).mono ?_; rintro e w4 ⟨rfl, rfl⟩; refine Stop.of ?_)
      refine Stop.go ?_
      clear HR2
      go_wp2_with (go_at_call 50; refine (HM1.out _ HB3.out).mono ?_; rintro e w5 ⟨rfl, hb5⟩; refine Stop.of ?_)
      refine Stop.go ?_
      have HB5 := hid (chain HB3.out hb5)
      clear hb5 HB3 HM1
      go_wp2_with (go_at_call 51; refine (HM2.out _ HB5.out).mono ?_; rintro e w6 ⟨rfl, hb6⟩; refine Stop.of ?_)
      refine Stop.go ?_
      have HB6 := hid (chain HB5.out hb6)
      clear hb6 HM2 HB5
      go_wp2_with (go_at_call 14; refine (HAW.out _).mono ?_; rintro e w7 ⟨rfl, hb7⟩)
      go_ret
      exact ⟨rfl, chain HB6.out hb7⟩
    · go_wp2_with (go_at_call 14; refine (HAW.out _).mono ?_; rintro e w3 ⟨rfl, hb3⟩)
      go_ret
      exact ⟨rfl, chain HB1.out hb3⟩
end Go.Proofs.Ytfipebkhomppmaa
