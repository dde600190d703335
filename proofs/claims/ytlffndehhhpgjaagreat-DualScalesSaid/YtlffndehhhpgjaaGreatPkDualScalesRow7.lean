/- Walks and plain laws for DualScalesRow, part 7. -/
import Derived.Test.YtlffndehhhpgjaaGreatPkDualScalesRow6
namespace Go.Proofs.YtlffndehhhpgjaaGreat
section
open Go.RowKit Go.Lib
set_option linter.unusedVariables false
set_option linter.unusedSimpArgs false

def ratAt (x : List Rt) (k : Nat) : Rt := x[k]?.getD (0, 1)
def sumR (r : List Int) (x : List Rt) : Nat → Int × Int
  | 0 => (0, 1)
  | k + 1 => if vec r k ≠ 0 then ((sumR r x k).1 * (ratAt x k).2 + (sumR r x k).2 * ((ratAt x k).1 * vec r k), (sumR r x k).2 * (ratAt x k).2) else sumR r x k
theorem sumR_bnd {r : List Int} {x : List Rt} (h1 : ∀ k, -1 ≤ vec r k ∧ vec r k ≤ 1) (hx : ∀ k, 1 ≤ (ratAt x k).2 ∧ (ratAt x k).2 ≤ 400 ∧ -10000000000 ≤ (ratAt x k).1 ∧ (ratAt x k).1 ≤ 10000000000) :
    ∀ k : Nat, (sumR r x k).1.natAbs ≤ k * 10000000000 * 400 ^ k ∧ 1 ≤ (sumR r x k).2 ∧ (sumR r x k).2.natAbs ≤ 400 ^ k
  | 0 => by simp [sumR]
  | k + 1 => by
    obtain ⟨i1, i2, i3⟩ := sumR_bnd h1 hx k
    obtain ⟨x1, x2, x3, x4⟩ := hx k
    have hv := h1 k
    have hp : 400 ^ (k + 1) = 400 ^ k * 400 := Nat.pow_succ ..
    have hmono : 400 ^ k ≤ 400 ^ (k + 1) := by rw [hp]; omega
    rw [sumR]
    by_cases h0 : vec r k ≠ 0
    · rw [if_pos h0]
      simp only []
      generalize sumR r x k = s at i1 i2 i3
      generalize ratAt x k = q at x1 x2 x3 x4
      obtain ⟨s1, s2⟩ := s
      obtain ⟨q1, q2⟩ := q
      simp only [] at *
      have e1 : (s1 * q2).natAbs ≤ k * 10000000000 * 400 ^ k * 400 := by
        rw [Int.natAbs_mul]; exact Nat.mul_le_mul i1 (by omega)
      have e2 : (s2 * (q1 * vec r k)).natAbs ≤ 400 ^ k * 10000000000 := by
        rw [Int.natAbs_mul]
        refine Nat.mul_le_mul i3 ?_
        rw [Int.natAbs_mul]
        have : q1.natAbs * (vec r k).natAbs ≤ 10000000000 * 1 := Nat.mul_le_mul (by omega) (by omega)
        omega
      have e3 : (s2 * q2).natAbs ≤ 400 ^ k * 400 := by
        rw [Int.natAbs_mul]; exact Nat.mul_le_mul i3 (by omega)
      refine ⟨?_, ?_, by rw [hp]; exact e3⟩
      · have e4 : (k + 1) * 10000000000 * 400 ^ (k + 1) = k * 10000000000 * 400 ^ k * 400 + 400 ^ k * 10000000000 * 400 := by
          rw [hp]
          generalize 400 ^ k = P
          grind
        rw [e4]
        have e5 : 400 ^ k * 10000000000 ≤ 400 ^ k * 10000000000 * 400 := by omega
        omega
      · have := Int.mul_pos (show (0 : Int) < s2 by omega) (show (0 : Int) < q2 by omega)
        omega
    · rw [if_neg h0]
      refine ⟨?_, i2, Nat.le_trans i3 hmono⟩
      refine Nat.le_trans i1 ?_
      exact Nat.mul_le_mul (by omega) hmono
theorem sumR_bnd10 {r : List Int} {x : List Rt} (h1 : ∀ k, -1 ≤ vec r k ∧ vec r k ≤ 1) (hx : ∀ k, 1 ≤ (ratAt x k).2 ∧ (ratAt x k).2 ≤ 400 ∧ -10000000000 ≤ (ratAt x k).1 ∧ (ratAt x k).1 ≤ 10000000000) {k : Nat} (hk : k ≤ 10) :
    (sumR r x k).1.natAbs ≤ 10485760000000000000000000000000000000 ∧ 1 ≤ (sumR r x k).2 ∧ (sumR r x k).2.natAbs ≤ 104857600000000000000000000 := by
  obtain ⟨i1, i2, i3⟩ := sumR_bnd h1 hx k
  have hp : 400 ^ k ≤ 400 ^ 10 := Nat.pow_le_pow_right (by decide) hk
  have e10 : (400 : Nat) ^ 10 = 104857600000000000000000000 := by decide +kernel
  rw [e10] at hp
  refine ⟨?_, i2, by omega⟩
  refine Nat.le_trans i1 ?_
  have : k * 10000000000 * 400 ^ k ≤ 10 * 10000000000 * 104857600000000000000000000 := Nat.mul_le_mul (by omega) hp
  omega

theorem sumR_bnd9 {r : List Int} {x : List Rt} (h1 : ∀ k, -1 ≤ vec r k ∧ vec r k ≤ 1) (hx : ∀ k, 1 ≤ (ratAt x k).2 ∧ (ratAt x k).2 ≤ 400 ∧ -10000000000 ≤ (ratAt x k).1 ∧ (ratAt x k).1 ≤ 10000000000) {k : Nat} (hk : k ≤ 9) :
    (sumR r x k).1.natAbs * 400 ≤ 10485760000000000000000000000000000000 ∧ (sumR r x k).2.natAbs * 400 ≤ 104857600000000000000000000 := by
  obtain ⟨i1, i2, i3⟩ := sumR_bnd h1 hx k
  have hp : 400 ^ k ≤ 400 ^ 9 := Nat.pow_le_pow_right (by decide) hk
  have e9 : (400 : Nat) ^ 9 = 262144000000000000000000 := by decide +kernel
  rw [e9] at hp
  refine ⟨?_, by omega⟩
  have : k * 10000000000 * 400 ^ k ≤ 9 * 10000000000 * 262144000000000000000000 := Nat.mul_le_mul (by omega) hp
  omega

def makesB (M : Mask) (x : List Rt) (y : List Int) : Bool :=
  decide (rdE M y = 0) && (decide (x.length = colsM M) && (x.all validR && decide (∀ i, i < M.length → (sumR (M[i]?.getD []) x (colsM M)).1 = (sumR (M[i]?.getD []) x (colsM M)).2 * vec y i)))
theorem mk_no1 {M : Mask} {x : List Rt} {y : List Int} (h : rdE M y ≠ 0) : makesB M x y = false := by unfold makesB; rw [decide_eq_false h]; rfl
theorem mk_no2 {M : Mask} {x : List Rt} {y : List Int} (h : x.length ≠ colsM M) : makesB M x y = false := by unfold makesB; rw [decide_eq_false h]; simp
theorem mk_no3 {M : Mask} {x : List Rt} {y : List Int} (h : x.all validR = false) : makesB M x y = false := by unfold makesB; rw [h]; simp
theorem mk_no4 {M : Mask} {x : List Rt} {y : List Int} {i : Nat} (hi : i < M.length) (h : (sumR (M[i]?.getD []) x (colsM M)).1 ≠ (sumR (M[i]?.getD []) x (colsM M)).2 * vec y i) : makesB M x y = false := by
  have : decide (∀ i, i < M.length → (sumR (M[i]?.getD []) x (colsM M)).1 = (sumR (M[i]?.getD []) x (colsM M)).2 * vec y i) = false := decide_eq_false fun hh => h (hh i hi)
  unfold makesB; rw [this]; simp
theorem mk_yes {M : Mask} {x : List Rt} {y : List Int} (h1 : rdE M y = 0) (h2 : x.length = colsM M) (h3 : x.all validR = true) (h4 : ∀ i, i < M.length → (sumR (M[i]?.getD []) x (colsM M)).1 = (sumR (M[i]?.getD []) x (colsM M)).2 * vec y i) : makesB M x y = true := by
  unfold makesB; rw [decide_eq_true h1, decide_eq_true h2, h3, decide_eq_true h4]; rfl

def SumB (w : World) (g : Nat) (n d : Int) : Prop := w.heap[g]? = some (.cells #[.int .i64 (n / 18446744073709551616), .int .u64 (n % 18446744073709551616), .int .i64 (d / 18446744073709551616), .int .u64 (d % 18446744073709551616)] 102 (0, 0))
theorem SumB.lt {w : World} {g : Nat} {n d : Int} (h : SumB w g n d) : g < w.heap.size := (Array.getElem?_eq_some_iff.1 h).1
theorem SumB.keep {w w' : World} {g : Nat} {n d : Int} (h : SumB w g n d) (hk : w'.heap[g]? = w.heap[g]?) : SumB w' g n d := hk.trans h
theorem SumB.cells {w : World} {g : Nat} {n d n1 n2 d1 d2 : Int} (h : SumB w g n d) (pn : WP n n1 n2) (pd : WP d d1 d2) : w.cell? ⟨g, 0, none⟩ = some (.int .i64 n1) ∧ w.cell? ⟨g, 1, none⟩ = some (.int .u64 n2) ∧ w.cell? ⟨g, 2, none⟩ = some (.int .i64 d1) ∧ w.cell? ⟨g, 3, none⟩ = some (.int .u64 d2) ∧ ∀ o, w.frozen? ⟨g, o, none⟩ = false := by
  unfold SumB at h
  rw [pn.1, pn.2, pd.1, pd.2]
  exact ⟨by simp [World.cell?, h], by simp [World.cell?, h], by simp [World.cell?, h], by simp [World.cell?, h], fun o => by simp [World.frozen?, h]⟩
theorem SumB.set {w : World} {g : Nat} {n d m e a b c f : Int} (h : SumB w g n d) (pm : WP m a b) (pe : WP e c f) : SumB ((((w.setCell ⟨g, 0, none⟩ (.int .i64 a)).setCell ⟨g, 1, none⟩ (.int .u64 b)).setCell ⟨g, 2, none⟩ (.int .i64 c)).setCell ⟨g, 3, none⟩ (.int .u64 f)) g m e := by
  unfold SumB
  rw [cells_set (cells_set (cells_set (cells_set h 0 _) 1 _) 2 _) 3 _, pm.1, pm.2, pe.1, pe.2]
  simp
theorem SumB.made (w : World) {n d a b c f : Int} (pn : WP n a b) (pd : WP d c f) : SumB (w.alloc (.cells #[.int .i64 a, .int .u64 b, .int .i64 c, .int .u64 f] 102)) w.heap.size n d := by
  unfold SumB
  rw [World.alloc_heap_new, pn.1, pn.2, pd.1, pd.2]

set_option maxRecDepth 100000 in
set_option maxHeartbeats 4000000 in
theorem lmakes_c (w : World) (a a2 a3 : Option Addr) (n cap n2 cap2 n3 cap3 : Nat) (M : Mask) (x : List Rt) (y : List Int) (hn : M.length = n) (hn2 : x.length = n2) (hn3 : y.length = n3) (hm : n ≤ maxLen) (hm2 : n2 ≤ maxLen) (hm3 : n3 ≤ maxLen) (H : RowsAt w a M) (H2 : RatsAt w a2 x) (H3 : IntsAt w a3 y) :
    Calls Tryz.prog 84 #[.slice a n cap, .slice a2 n2 cap2, .slice a3 n3 cap3] w fun e w' => e = .returned (.bool (makesB M x y)) ∧ Below w.heap.size w w' := by
  have HRD := hid (lreading_c w a a3 n cap n3 cap3 M y hn hn3 hm hm3 H H3)
  have HN1 := hid (mk_no1 (M := M) (x := x) (y := y))
  have HN2 := hid (mk_no2 (M := M) (x := x) (y := y))
  have HN3 := hid (mk_no3 (M := M) (x := x) (y := y))
  obtain ⟨B, hB⟩ : ∃ B, B = makesB M x y := ⟨_, rfl⟩
  rw [← hB] at HN1 HN2 HN3 ⊢
  by_cases h0 : rdE M y = 0
  rotate_left
  · rw [decide_eq_false h0] at HRD
    obtain rfl : B = false := HN1.out h0
    clear hn hn2 hn3 H H2 H3 hB h0 HN2 HN3
    go_enter Tryz.func84, Tryz.ntmps84
    go_wp2_with (go_at_call 153; refine HRD.out.mono ?_; rintro e w1 ⟨rfl, hb1⟩)
    go_ret
    exact ⟨rfl, hb1⟩
  rw [decide_eq_true h0] at HRD
  obtain ⟨hok, hyl, hmil⟩ := rd_ok h0
  obtain ⟨hM, h1, h6, hc1, hc10⟩ := okM_ok hok
  obtain ⟨b, off, ra, rc, rfl, hb, hc⟩ := rows_head H (by omega)
  have HCC := hid (fun (X : World) (hX : Below w.heap.size w X) => show X.cell? ⟨b, off, none⟩ = some (.slice ra (colsM M) rc) from (hX.cell (p := ⟨b, off, none⟩) hb).trans hc)
  have HN4 := hid (fun i (hi : i < M.length) h => mk_no4 (x := x) (y := y) hi h)
  have HYS := hid (fun h2 h3 h4 => mk_yes (M := M) (x := x) (y := y) h0 h2 h3 h4)
  rw [← hB] at HYS HN4
  have i0 : (0 : Int) < (n : Int) := by omega
  have HCI := hid (fun (X : World) (hX : Below w.heap.size w X) => containsInv X a2 n2 cap2 x hn2 hm2 (H2.below hX))
  have HRW := hid (fun (X : World) (hX : Below w.heap.size w X) => H.below hX)
  have HXI := hid (fun (X : World) (hX : Below w.heap.size w X) => H2.below hX)
  have HYI := hid (fun (X : World) (hX : Below w.heap.size w X) => H3.below hX)
  have HMW := hid (show ∀ r ∈ M, r.length = colsM M ∧ ∀ k, -1 ≤ vec r k ∧ vec r k ≤ 1 from fun r hr => ⟨hM.wid r hr, hM.one r hr⟩)
  have HYB := hid (mil_le hmil)
  have HN := hid hn
  have HNX := hid hn2
  have HNY := hid hn3
  have HHN := hid (show n3 = n by omega)
  have hn6 : n ≤ 6 := by omega
  obtain ⟨W, hW⟩ : ∃ W, W = colsM M := ⟨_, rfl⟩
  rw [← hW] at HCC HN2 HN4 HYS HMW hc10 hc1
  clear hn hn2 hn3 H H2 H3 hB h0 hok hyl hmil hM h1 h6 hb hc HN1 hW
  by_cases hlw : n2 = W
  rotate_left
  · obtain rfl : B = false := HN2.out (by rw [HNX.out]; exact hlw)
    have hlb : ((n2 : Int) != (W : Int)) = true := by simp; omega
    clear HN3 HN4 HYS HCI HRW HXI HYI HMW HYB
    go_enter Tryz.func84, Tryz.ntmps84
    go_wp2_with (go_at_call 153; refine HRD.out.mono ?_; rintro e w1 ⟨rfl, hb1⟩; refine Stop.of ?_)
    refine Stop.go ?_
    have cc := HCC.out _ hb1
    go_wp2
    go_ret
    exact ⟨rfl, hb1⟩
  subst hlw
  have hlb : ((n2 : Int) != (n2 : Int)) = false := by simp
  obtain ⟨V, hV⟩ : ∃ V, V = !x.all validR := ⟨_, rfl⟩
  rw [← hV] at HCI
  have HVV := hid hV.symm
  clear hV
  go_enter Tryz.func84, Tryz.ntmps84
  go_wp2_with (go_at_call 153; refine HRD.out.mono ?_; rintro e w1 ⟨rfl, hb1⟩; refine Stop.of ?_)
  refine Stop.go ?_
  have cc := HCC.out _ hb1
  have HB1 := hid hb1
  have HCI1 := hid (HCI.out _ hb1)
  clear hb1 HCI HRD
  go_wp2_with (go_at_call 80; refine HCI1.out.mono ?_; rintro e w2 ⟨rfl, hb2⟩; refine Stop.of ?_)
  refine Stop.go ?_
  have HB2 := hid (chain HB1.out hb2)
  clear hb2 HB1 HCI1 cc HCC
  cases V
  rotate_left
  · obtain rfl : B = false := HN3.out (by have := HVV.out; simpa using this)
    go_wp2
    go_ret
    exact ⟨rfl, HB2.out⟩
  · have hall : x.all validR = true := by have := HVV.out; simpa using this
    have hxv : ∀ k, 1 ≤ (ratAt x k).2 ∧ (ratAt x k).2 ≤ 400 ∧ -10000000000 ≤ (ratAt x k).1 ∧ (ratAt x k).1 ≤ 10000000000 := fun k => by
      unfold ratAt
      cases e : x[k]? with
      | none => decide
      | some r =>
        have := List.all_eq_true.1 hall r (List.mem_of_getElem? e)
        rw [validR_iff] at this
        exact ⟨this.1, this.2.1, this.2.2.1, this.2.2.2.1⟩
    have HXV := hid hxv
    have HYS2 := hid (HYS.out HNX.out hall)
    clear hall hxv HN2 HN3 HYS HVV
    go_wp2
    go_loopw [31] (fun i wr => ∃ k : Nat, k ≤ n ∧ i = .int .i64 k ∧ Below w.heap.size w wr ∧ Hid (∀ q, q < k → (sumR (M[q]?.getD []) x n2).1 = (sumR (M[q]?.getD []) x n2).2 * vec y q)) (fun i _ => n - (intOf i).toNat)
    case atStart => exact ⟨0, Nat.zero_le _, rfl, HB2.out, hid (fun q h => by omega)⟩
    case round =>
      obtain ⟨k, hk, rfl, hbk, HQ⟩ := hrel
      by_cases hlt : k < n
      · have hkM : k < M.length := by rw [HN.out]; exact hlt
        obtain ⟨b5, o5, ra5, rn5, rc5, e5, hb5, hc5, hrn5, hrm5, hri5⟩ := (HRW.out wr hbk) k hkM
        cases e5
        obtain ⟨hwid, hone⟩ := HMW.out _ (List.getElem_mem hkM)
        obtain rfl : rn5 = n2 := by omega
        have hrowe : M[k]?.getD [] = M[k] := by rw [List.getElem?_eq_getElem hkM]; rfl
        have HNK := hid (HN4.out k hkM)
        rw [hrowe] at HNK
        have HQX := hid (fun (h : (sumR M[k] x rn5).1 = (sumR M[k] x rn5).2 * vec y k) => show ∀ q, q < k + 1 → (sumR (M[q]?.getD []) x rn5).1 = (sumR (M[q]?.getD []) x rn5).2 * vec y q from fun q hq => by
          rcases Nat.lt_or_ge q k with h3 | h3
          · exact HQ.out q h3
          · obtain rfl : q = k := by omega
            rw [hrowe]; exact h)
        obtain ⟨R, hR⟩ : ∃ R, R = M[k] := ⟨_, rfl⟩
        rw [← hR] at hri5 hone hwid HNK HQX
        have HBD := hid (fun j (hj : j ≤ 10) => sumR_bnd10 hone HXV.out hj)
        have HBD9 := hid (fun j (hj : j ≤ 9) => sumR_bnd9 hone HXV.out hj)
        have HRI := hid (fun (X : World) (hX : Below wr.heap.size wr X) => hri5.below hX)
        have HONE := hid hone
        have HWID := hid hwid
        have HBK := hid hbk
        have i1 : (k : Int) < (n : Int) := by omega
        clear hR hrowe hri5 hrn5 hkM hone hwid hbk HN4 HQ
        go_wp2_with (go_at_call 95; refine (wzero_c _).mono ?_; rintro e w3 ⟨rfl, hb3⟩; refine Stop.of ?_)
        refine Stop.go ?_
        have hz : sumV 0 1 = .agg #[.int .i64 0, .int .u64 0, .int .i64 0, .int .u64 1] := by simp [sumV]
        rw [hz]
        clear hz
        go_wp2_with fail
        obtain ⟨wb, hwb⟩ : ∃ wb, wb = w3.alloc (.cells #[.int .i64 0, .int .u64 0, .int .i64 0, .int .u64 1] 102) := ⟨_, rfl⟩
        obtain ⟨g, hg⟩ : ∃ g, g = w3.heap.size := ⟨_, rfl⟩
        have hsb : SumB wb g 0 1 := by rw [hwb, hg]; exact SumB.made w3 ⟨by decide, by decide⟩ ⟨by decide, by decide⟩
        have hbb : Below w3.heap.size w3 wb := by rw [hwb]; exact (Below.refl _ _).alloc (Nat.le_refl _) _
        rw [← hwb, ← hg]
        have HSB := hid hsb
        have HBB := hid hbb
        have HB3 := hid hb3
        have HG := hid hg
        clear hwb hg hsb hbb hb3
        obtain ⟨wo, hwo⟩ : ∃ wo, wo = wr := ⟨_, rfl⟩
        subst hwo
        go_loopw [39] (fun i wr => ∃ t : Nat, t ≤ rn5 ∧ i = .int .i64 t ∧ SumB wr g (sumR R x t).1 (sumR R x t).2 ∧ Below w3.heap.size w3 wr) (fun i _ => rn5 - (intOf i).toNat)
        case atStart => exact ⟨0, Nat.zero_le _, rfl, HSB.out, HBB.out⟩
        case round =>
          obtain ⟨t, ht, rfl, hsb, hbt⟩ := hrel
          by_cases htl : t < rn5
          · have hbw : Below wo.heap.size wo wr := HB3.out.trans (hbt.mono HB3.out.size)
            obtain ⟨b6, o6, rfl, hb6, hc6⟩ := (HRI.out wr hbw) t (by rw [HWID.out]; exact htl)
            have hv6 : R[t]?.getD 0 = vec R t := rfl
            rw [hv6] at hc6
            have hone := HONE.out t
            have hsr : sumR R x (t + 1) = if vec R t ≠ 0 then ((sumR R x t).1 * (ratAt x t).2 + (sumR R x t).2 * ((ratAt x t).1 * vec R t), (sumR R x t).2 * (ratAt x t).2) else sumR R x t := rfl
            obtain ⟨v, hv⟩ : ∃ v, v = vec R t := ⟨_, rfl⟩
            rw [← hv] at hc6 hsr hone
            by_cases h0 : v = 0
            · rw [if_neg (by simp [h0])] at hsr
              have hvb : (v != 0) = false := by simp [h0]
              have HSR := hid hsr
              have HSX := hid hsb
              have HBT := hid hbt
              clear hv6 hv hsr hsb hbt hbw
              go_wp2
              refine ⟨⟨t + 1, by omega, by go_num, by rw [HSR.out]; exact HSX.out, HBT.out⟩, by simp [intOf]; omega⟩
            · rw [if_pos h0] at hsr
              have hvb : (v != 0) = true := by simp [h0]
              obtain ⟨k1, k2, k3⟩ := HBD.out t (by omega)
              obtain ⟨m1, m2, m3⟩ := HBD.out (t + 1) (by omega)
              obtain ⟨z1, z2⟩ := HBD9.out t (by omega)
              obtain ⟨x1, x2, x3, x4⟩ := HXV.out t
              obtain ⟨bx, ox, rfl, hbx, hx0, hx1⟩ := (HXI.out wr (chain HBK.out hbw)) t (by rw [HNX.out]; exact htl)
              have hxt : ratAt x t = x[t]'(by rw [HNX.out]; exact htl) := by unfold ratAt; rw [List.getElem?_eq_getElem (by rw [HNX.out]; exact htl)]; rfl
              rw [← hxt] at hx0 hx1
              rw [hsr] at m1 m2 m3
              have HSR := hid hsr
              obtain ⟨⟨N, D⟩, hND⟩ : ∃ q, q = ratAt x t := ⟨_, rfl⟩
              rw [← hND] at hx0 hx1 m1 m2 m3 x1 x2 x3 x4 HSR
              obtain ⟨⟨sn, sd⟩, hS⟩ : ∃ q, q = sumR R x t := ⟨_, rfl⟩
              rw [← hS] at hsb k1 k2 k3 m1 m2 m3 z1 z2 HSR
              simp only [] at hx0 hx1 m1 m2 m3 x1 x2 x3 x4 HSR hsb k1 k2 k3 z1 z2
              have e1 : (sn * D).natAbs ≤ 10485760000000000000000000000000000000 := by
                rw [Int.natAbs_mul]
                have : sn.natAbs * D.natAbs ≤ sn.natAbs * 400 := Nat.mul_le_mul_left _ (by omega)
                omega
              have e2 : (sd * (N * v)).natAbs ≤ 104857600000000000000000000 * 10000000000 := by
                rw [Int.natAbs_mul, Int.natAbs_mul]
                exact Nat.mul_le_mul k3 (by have : N.natAbs * v.natAbs ≤ 10000000000 * 1 := Nat.mul_le_mul (by omega) (by omega); omega)
              have e3 : -10000000000 ≤ N * v ∧ N * v ≤ 10000000000 := by
                have : (N * v).natAbs ≤ 10000000000 * 1 := by rw [Int.natAbs_mul]; exact Nat.mul_le_mul (by omega) (by omega)
                omega
              have HPL := hid (fun (X : World) => splus_c X sn sd N D v (by unfold B127; omega) (by unfold B127; omega) (by omega) (by omega) (by unfold B127; omega) (by unfold B127; omega) (by unfold B127; omega) (by unfold B127; omega))
              obtain ⟨n1, n2, pn⟩ := WP.ex sn
              obtain ⟨d1, d2, pd⟩ := WP.ex sd
              obtain ⟨s1, s2, pS⟩ := WP.ex (sn * D + sd * (N * v))
              obtain ⟨q1, q2, pC⟩ := WP.ex (sd * D)
              rw [pn.sum pd, pS.sum pC] at HPL
              simp only [ratV] at HPL
              have HSS := hid (fun (X : World) (hX : SumB X g sn sd) => hX.set pS pC)
              have hcel := hsb.cells pn pd
              have hgl := hsb.lt
              have HSX := hid hsb
              have HBT := hid hbt
              have HS := hid (fun (X : World) (hX : Below wr.heap.size wr X) => show X.cell? ⟨g, 0, none⟩ = some (.int .i64 n1) ∧ X.cell? ⟨g, 1, none⟩ = some (.int .u64 n2) ∧ X.cell? ⟨g, 2, none⟩ = some (.int .i64 d1) ∧ X.cell? ⟨g, 3, none⟩ = some (.int .u64 d2) ∧ X.cell? ⟨bx, ox + t * 2, none⟩ = some (.int .i64 N) ∧ X.cell? ⟨bx, ox + t * 2 + 1, none⟩ = some (.int .i64 D) from
                ⟨(hX.cell (p := ⟨g, 0, none⟩) hgl).trans hcel.1, (hX.cell (p := ⟨g, 1, none⟩) hgl).trans hcel.2.1, (hX.cell (p := ⟨g, 2, none⟩) hgl).trans hcel.2.2.1, (hX.cell (p := ⟨g, 3, none⟩) hgl).trans hcel.2.2.2.1, (hX.cell (p := ⟨bx, _, none⟩) hbx).trans hx0, (hX.cell (p := ⟨bx, _, none⟩) hbx).trans hx1⟩)
              have htl2 : (t : Int) < (rn5 : Int) := by omega
              clear hv6 hv hsr hsb hbt hbw k1 k2 k3 m1 m2 m3 z1 z2 x1 x2 x3 x4 e1 e2 e3 hND hS pn pd pS pC hcel hx0 hx1 hxt
              go_wp2
              refine plain_region (fun j' X => decide (j' ≤ 6) = true → X.cell? ⟨g, 0, none⟩ = some (.int .i64 n1) ∧ X.cell? ⟨g, 1, none⟩ = some (.int .u64 n2) ∧ X.cell? ⟨g, 2, none⟩ = some (.int .i64 d1) ∧ X.cell? ⟨g, 3, none⟩ = some (.int .u64 d2) ∧ X.cell? ⟨bx, ox + t * 2, none⟩ = some (.int .i64 N) ∧ X.cell? ⟨bx, ox + t * 2 + 1, none⟩ = some (.int .i64 D)) (by kernel_rfl) ?_
              have hbd : Below wr.heap.size wr wr.drew := (Below.refl _ _).drew
              have HSXd := hid (HSX.out.keep (w' := wr.drew) rfl)
              generalize wr.drew = wd at hbd HSXd ⊢
              refine AnyT.takeD (i := 0) (v := .agg #[.int .i64 n1, .int .u64 n2, .int .i64 d1, .int .u64 d2]) rfl rfl (by kernel_rfl) (by kernel_rfl) (by kernel_rfl) (by first | exact (fun _ _ _ h => h) | exact (fun _ _ _ h => absurd h.1 (by simp))) (by kernel_rfl) (by rfl) (by rintro w' ⟨y1, y2, y3, y4, y5, y6⟩; go_simp) (HS.out _ hbd) ?_; go_frame
              refine AnyT.takeD (i := 1) (v := .slice (some ⟨bx, ox, none⟩) rn5 cap2) rfl rfl (by kernel_rfl) (by kernel_rfl) (by kernel_rfl) (by first | exact (fun _ _ _ h => h) | exact (fun _ _ _ h => absurd h.1 (by simp))) (by kernel_rfl) (by rfl) (by rintro w' ⟨y1, y2, y3, y4, y5, y6⟩; go_simp) (HS.out _ hbd) ?_; go_frame
              refine AnyT.takeD (i := 2) (v := .int .i64 t) rfl rfl (by kernel_rfl) (by kernel_rfl) (by kernel_rfl) (by first | exact (fun _ _ _ h => h) | exact (fun _ _ _ h => absurd h.1 (by simp))) (by kernel_rfl) (by rfl) (by rintro w' ⟨y1, y2, y3, y4, y5, y6⟩; go_simp) (HS.out _ hbd) ?_; go_frame
              refine AnyT.takeD (i := 3) (v := .pointer (some ⟨bx, ox + t * 2, none⟩)) rfl rfl (by kernel_rfl) (by kernel_rfl) (by kernel_rfl) (by first | exact (fun _ _ _ h => h) | exact (fun _ _ _ h => absurd h.1 (by simp))) (by kernel_rfl) (by rfl) (by rintro w' ⟨y1, y2, y3, y4, y5, y6⟩; go_simp) (HS.out _ hbd) ?_; go_frame
              refine AnyT.takeD (i := 4) (v := .agg #[.int .i64 N, .int .i64 D]) rfl rfl (by kernel_rfl) (by kernel_rfl) (by kernel_rfl) (by first | exact (fun _ _ _ h => h) | exact (fun _ _ _ h => absurd h.1 (by simp))) (by kernel_rfl) (by rfl) (by rintro w' ⟨y1, y2, y3, y4, y5, y6⟩; go_simp) (HS.out _ hbd) ?_; go_frame
              refine AnyT.takeD (i := 5) (v := .int .i64 v) rfl rfl (by kernel_rfl) (by kernel_rfl) (by kernel_rfl) (by first | exact (fun _ _ _ h => h) | exact (fun _ _ _ h => absurd h.1 (by simp))) (by kernel_rfl) (by rfl) (by rintro w' ⟨y1, y2, y3, y4, y5, y6⟩; go_simp) (HS.out _ hbd) ?_; go_frame
              refine AnyT.next (i := 6) (by kernel_rfl) rfl (wpOp_of_list rfl ?_)
              go_wp2_with (go_at_call 96; refine (HPL.out _).mono ?_; rintro e w4 ⟨rfl, hb4⟩; refine Stop.of ?_)
              refine Stop.go ?_
              have HB4 := hid (chain hbd hb4)
              have hs4 := HSXd.out.keep (hb4.block g HSXd.out.lt)
              obtain ⟨y1, y2, y3, y4, y5, y6⟩ := HS.out _ HB4.out
              have hfz : ∀ o, w4.frozen? ⟨g, o, none⟩ = false := by
                obtain ⟨_, _, p1⟩ := WP.ex sn
                obtain ⟨_, _, p2⟩ := WP.ex sd
                exact (hs4.cells p1 p2).2.2.2.2
              have f0 := hfz 0
              have f1 := hfz 1
              have f2 := hfz 2
              have f3 := hfz 3
              have HST := hid (HSS.out w4 hs4)
              have hg4 : g < w4.heap.size := hs4.lt
              have HBE := hid (show Below w3.heap.size w3 ((((w4.setCell ⟨g, 0, none⟩ (.int .i64 s1)).setCell ⟨g, 1, none⟩ (.int .u64 s2)).setCell ⟨g, 2, none⟩ (.int .i64 q1)).setCell ⟨g, 3, none⟩ (.int .u64 q2)) from by
                have hg3 : w3.heap.size ≤ g := by rw [HG.out]; exact Nat.le_refl _
                exact below_set (below_set (below_set (below_set (HBT.out.trans (HB4.out.mono HBT.out.size)) hg3 0 _) hg3 1 _) hg3 2 _) hg3 3 _)
              clear hs4 hfz HSS HPL hb4 HSXd hbd
              go_wp2
              refine ⟨fun _ => HS.out _ HB4.out, ?_⟩
              refine AnyT.next (i := 7) (by kernel_rfl) rfl (wpOp_of_list rfl ?_)
              go_wp2
              refine ⟨fun h => absurd h (by decide), ?_⟩
              refine AnyT.done (by kernel_rfl) ?_ _
              go_wp2
              refine ⟨⟨t + 1, by omega, by go_num, ?_, HBE.out⟩, by simp [intOf]; omega⟩
              rw [HSR.out]
              exact HST.out
          · obtain rfl : t = rn5 := by omega
            have hbw : Below wo.heap.size wo wr := HB3.out.trans (hbt.mono HB3.out.size)
            obtain ⟨k1, k2, k3⟩ := HBD.out t (by omega)
            have hkY : k < y.length := by rw [HNY.out, HHN.out]; exact hlt
            obtain ⟨by7, oy7, rfl, hby, hcy⟩ := (HYI.out wr (chain HBK.out hbw)) k hkY
            have hvy : y[k]?.getD 0 = vec y k := rfl
            rw [hvy] at hcy
            have hyb := vec_mem (P := fun z => -1000000 ≤ z ∧ z ≤ 1000000) (by decide) HYB.out k
            obtain ⟨yv, hyv⟩ : ∃ v, v = vec y k := ⟨_, rfl⟩
            rw [← hyv] at hcy hyb HNK HQX
            obtain ⟨⟨sn, sd⟩, hS⟩ : ∃ q, q = sumR R x t := ⟨_, rfl⟩
            rw [← hS] at hsb k1 k2 k3 HNK HQX
            simp only [] at hsb k1 k2 k3 HNK HQX
            have e2 : (sd * yv).natAbs ≤ 104857600000000000000000000 * 1000000 := by
              rw [Int.natAbs_mul]
              exact Nat.mul_le_mul k3 (by omega)
            have HCP := hid (fun (X : World) => scompare_c X sn sd yv (by unfold B127; omega) (by omega) (by unfold B127; omega))
            obtain ⟨n1, n2, pn⟩ := WP.ex sn
            obtain ⟨d1, d2, pd⟩ := WP.ex sd
            rw [pn.sum pd] at HCP
            obtain ⟨z0, z1, z2, z3, _⟩ := hsb.cells pn pd
            have l0 := lift_cell hsb.lt z0
            have l1 := lift_cell hsb.lt z1
            have l2 := lift_cell hsb.lt z2
            have l3 := lift_cell hsb.lt z3
            have l4 := lift_cell hby hcy
            have hcz : (cmpI sn (sd * yv) = 0 ↔ sn = sd * yv) := by unfold cmpI; split <;> (try split) <;> omega
            obtain ⟨cv, hcv⟩ : ∃ c, c = cmpI sn (sd * yv) := ⟨_, rfl⟩
            rw [← hcv] at HCP hcz
            have HCZ := hid hcz
            have HBT := hid (chain HBK.out hbw)
            have i3 : (k : Int) < (n3 : Int) := by have := HHN.out; omega
            have i4 : (0 : Int) ≤ (k : Int) := by omega
            clear hbw hkY hvy hyv hS hsb k1 k2 k3 e2 pn pd z0 z1 z2 z3 hcv hcz hcy hbt hyb
            go_wp2
            refine region_lift (by kernel_rfl) (by kernel_rfl) ?_
            repeat (go_big_quiet_step ((go_at_call 155; exact lift_calls (HCP.out _))))
            refine wpQuiet_nil ?_
            rintro _ ⟨X, rfl⟩
            have HFB := hid (chain HBT.out (lift_below wr X))
            clear l0 l1 l2 l3 l4
            by_cases hc0 : cv = 0
            · have hcb : (cv != 0) = false := by simp [hc0]
              have HX := hid (HQX.out (HCZ.out.1 hc0))
              go_wp2
              exact ⟨⟨k + 1, by omega, by go_num, HFB.out, HX⟩, by simp [intOf]; omega⟩
            · have hcb : (cv != 0) = true := by simp [hc0]
              obtain rfl : B = false := HNK.out (fun h => hc0 (HCZ.out.2 h))
              go_wp2
              go_ret
              exact ⟨rfl, HFB.out⟩
      · obtain rfl : k = n := by omega
        obtain rfl : B = true := HYS2.out (fun i hi => HQ.out i (by have := HN.out; omega))
        go_wp2
        go_ret
        exact ⟨rfl, hbk⟩
end

section
open Go.RowKit Go.Lib
set_option linter.unusedVariables false
set_option linter.unusedSimpArgs false

theorem r3Reading_c (w : World) (a a2 : Option Addr) (n cap n2 cap2 : Nat) (M : Mask) (y : List Int) (hn : M.length = n) (hn2 : y.length = n2) (hm : n ≤ maxLen) (hm2 : n2 ≤ maxLen) (H : RowsAt w a M) (H2 : IntsAt w a2 y) :
    Calls Tryz.prog 17 #[.slice a n cap, .slice a2 n2 cap2] w fun e w' => e = .returned (.bool (decide (rdE M y = 0))) ∧ w = w' := by
  have HC := hid (r3Read_c w a a2 n cap n2 cap2 M y hn hn2 hm hm2 H H2)
  obtain ⟨E, hE⟩ : ∃ E, E = rdE M y := ⟨_, rfl⟩
  rw [← hE] at HC ⊢
  clear hE hn hn2 H H2
  go_enter Tryz.func17, Tryz.ntmps17
  go_wp2_with (go_at_call 71; refine HC.out.mono ?_; rintro e w1 ⟨rfl, rfl⟩; refine Stop.of ?_)
  refine Stop.go ?_
  go_wp2
  go_ret
  exact ⟨ret_bool (by rw [Bool.eq_iff_iff]; simp), rfl⟩

end

section
set_option linter.unusedVariables false
set_option linter.unusedSimpArgs false

def denP (x : List Rt) : Nat → Int
  | 0 => 1
  | k + 1 => denP x k * (ratAt x k).2
theorem denP_ne {x : List Rt} (h : ∀ k, (ratAt x k).2 ≠ 0) : ∀ k, denP x k ≠ 0
  | 0 => by show (1 : Int) ≠ 0; decide
  | k + 1 => Int.mul_ne_zero (denP_ne h k) (h k)
theorem denP_dvd (x : List Rt) : ∀ (k i : Nat), i < k → (ratAt x i).2 ∣ denP x k
  | 0, i, h => by omega
  | k + 1, i, h => by
    by_cases e : i = k
    · subst e; exact ⟨denP x i, Int.mul_comm _ _⟩
    · obtain ⟨c, hc⟩ := denP_dvd x k i (by omega)
      exact ⟨c * (ratAt x k).2, by rw [denP, hc]; grind⟩
def numP (x : List Rt) (W i : Nat) : Int := (ratAt x i).1 * (denP x W / (ratAt x i).2)
theorem numP_eq {x : List Rt} {W i : Nat} (hi : i < W) : numP x W i * (ratAt x i).2 = (ratAt x i).1 * denP x W := by
  have h2 := Int.ediv_mul_cancel (denP_dvd x W i hi)
  unfold numP
  rw [Int.mul_assoc, h2]

end
end Go.Proofs.YtlffndehhhpgjaaGreat

namespace Go.Proofs.YtlffndehhhpgjaaGreat
set_option linter.unusedVariables false
set_option linter.unusedSimpArgs false

def sumA {α : Type} (v : α → Int) : List α → Nat
  | [] => 0
  | r :: rs => (v r).natAbs + sumA v rs
def pairA {α : Type} (c d : α → Int) : List α → Nat
  | [] => 0
  | r :: rs => sumA (fun s => c r * d s - d r * c s) rs + pairA c d rs

theorem ex_abs {α : Type} (v : α → Int) : ∀ (l : List α) (F : Nat) (f : List α → Int), (∀ m : List α, m.length + 1 = l.length → (f m).natAbs ≤ F) → (ex v f l).natAbs ≤ F * sumA v l
  | [], F, f, _ => by simp [ex]
  | r :: rs, F, f, hf => by
    have h1 := ex_abs v rs F (fun l => f (r :: l)) (fun m hm => hf _ (by simp; omega))
    have h2 := hf rs (by simp)
    have h3 : (v r * f rs).natAbs ≤ F * (v r).natAbs := by rw [Int.natAbs_mul, Nat.mul_comm]; exact Nat.mul_le_mul_right _ h2
    unfold ex sumA
    rw [Nat.mul_add]
    omega
theorem ex_lin {α : Type} (c d : α → Int) (x y : Int) : ∀ (l : List α) (f : List α → Int), ex (fun s => x * d s - y * c s) f l = x * ex d f l - y * ex c f l
  | [], f => by simp [ex]
  | r :: rs, f => by
    unfold ex
    rw [ex_lin c d x y rs (fun l => f (r :: l))]
    grind
theorem ex2_abs {α : Type} (c d : α → Int) : ∀ (l : List α) (F : Nat) (f : List α → Int), (∀ m : List α, m.length + 2 = l.length → (f m).natAbs ≤ F) → (ex c (ex d f) l).natAbs ≤ F * pairA c d l
  | [], F, f, _ => by simp [ex]
  | r :: rs, F, f, hf => by
    have h1 := ex2_abs c d rs F (fun k => f (r :: k)) (fun m hm => hf _ (by simp; omega))
    have e1 : ex c (fun l => ex d f (r :: l)) rs = d r * ex c f rs - ex c (ex d (fun m => f (r :: m))) rs := by
      have : (fun l => ex d f (r :: l)) = fun l => d r * f l - ex d (fun m => f (r :: m)) l := by funext l; rfl
      rw [this, ex_sub c rs (fun l => d r * f l) (fun l => ex d (fun m => f (r :: m)) l), ex_mul]
    have e2 : ex c (ex d f) (r :: rs) = ex (fun s => c r * d s - d r * c s) f rs + ex c (ex d (fun m => f (r :: m))) rs := by
      rw [ex_lin]
      show c r * ex d f rs - ex c (fun l => ex d f (r :: l)) rs = _
      rw [e1]; omega
    have h2 := ex_abs (fun s => c r * d s - d r * c s) rs F f (fun m hm => hf m (by simp; omega))
    rw [e2]
    unfold pairA
    rw [Nat.mul_add]
    omega

structure Cnt where
  a : Nat
  b : Nat
  c : Nat
  d : Nat
def cnt {α : Type} (c d : α → Int) : List α → Cnt
  | [] => ⟨0, 0, 0, 0⟩
  | r :: rs =>
    let k := cnt c d rs
    if c r = 0 then (if d r = 0 then k else { k with d := k.d + 1 }) else if d r = 0 then { k with c := k.c + 1 } else if c r = d r then { k with a := k.a + 1 } else { k with b := k.b + 1 }
theorem cnt_cons {α : Type} (c d : α → Int) (r : α) (rs : List α) : cnt c d (r :: rs) = if c r = 0 then (if d r = 0 then cnt c d rs else { cnt c d rs with d := (cnt c d rs).d + 1 }) else if d r = 0 then { cnt c d rs with c := (cnt c d rs).c + 1 } else if c r = d r then { cnt c d rs with a := (cnt c d rs).a + 1 } else { cnt c d rs with b := (cnt c d rs).b + 1 } := rfl
theorem one3 {x : Int} (h : -1 ≤ x ∧ x ≤ 1) : x = -1 ∨ x = 0 ∨ x = 1 := by omega
theorem cnt_le {α : Type} (c d : α → Int) : ∀ l : List α, (cnt c d l).a + (cnt c d l).b + (cnt c d l).c + (cnt c d l).d ≤ l.length
  | [] => by simp [cnt]
  | r :: rs => by
    have := cnt_le c d rs
    rw [cnt_cons]
    simp only [List.length_cons]
    generalize cnt c d rs = k at this ⊢
    obtain ⟨A, B, C, D⟩ := k
    split <;> (try split) <;> (try split) <;> (try simp only []) <;> (try simp only [] at this) <;> omega
theorem sum_cnt {α : Type} {c d : α → Int} (hc : ∀ r, -1 ≤ c r ∧ c r ≤ 1) (hd : ∀ r, -1 ≤ d r ∧ d r ≤ 1) (x y : Int) (hx : -1 ≤ x ∧ x ≤ 1) (hy : -1 ≤ y ∧ y ≤ 1) : ∀ l : List α,
    sumA (fun s => x * d s - y * c s) l = if x = 0 then (if y = 0 then 0 else (cnt c d l).a + (cnt c d l).b + (cnt c d l).c) else if y = 0 then (cnt c d l).a + (cnt c d l).b + (cnt c d l).d else if x = y then 2 * (cnt c d l).b + (cnt c d l).c + (cnt c d l).d else 2 * (cnt c d l).a + (cnt c d l).c + (cnt c d l).d
  | [] => by simp [sumA, cnt]
  | r :: rs => by
    have ih := sum_cnt hc hd x y hx hy rs
    unfold sumA
    rw [ih, cnt_cons]
    have h1 := one3 (hc r)
    have h2 := one3 (hd r)
    generalize c r = p at h1 ⊢
    generalize d r = q at h2 ⊢
    generalize cnt c d rs = k
    rcases one3 hx with rfl | rfl | rfl <;> rcases one3 hy with rfl | rfl | rfl <;> rcases h1 with rfl | rfl | rfl <;> rcases h2 with rfl | rfl | rfl <;> simp <;> omega
theorem pair_cnt {α : Type} {c d : α → Int} (hc : ∀ r, -1 ≤ c r ∧ c r ≤ 1) (hd : ∀ r, -1 ≤ d r ∧ d r ≤ 1) : ∀ l : List α,
    pairA c d l = 2 * ((cnt c d l).a * (cnt c d l).b) + (cnt c d l).c * (cnt c d l).d + ((cnt c d l).c + (cnt c d l).d) * ((cnt c d l).a + (cnt c d l).b)
  | [] => by simp [pairA, cnt]
  | r :: rs => by
    have ih := pair_cnt hc hd rs
    have hs := sum_cnt hc hd (c r) (d r) (hc r) (hd r) rs
    unfold pairA
    rw [hs, ih, cnt_cons]
    have h1 := one3 (hc r)
    have h2 := one3 (hd r)
    generalize c r = p at h1 ⊢
    generalize d r = q at h2 ⊢
    generalize cnt c d rs = k
    obtain ⟨A, B, C, D⟩ := k
    rcases h1 with rfl | rfl | rfl <;> rcases h2 with rfl | rfl | rfl <;> simp <;> grind
theorem pair_le {α : Type} {c d : α → Int} (hc : ∀ r, -1 ≤ c r ∧ c r ≤ 1) (hd : ∀ r, -1 ≤ d r ∧ d r ≤ 1) (l : List α) : 2 * pairA c d l ≤ l.length * l.length := by
  rw [pair_cnt hc hd l]
  have h := cnt_le c d l
  generalize cnt c d l = k at h ⊢
  obtain ⟨A, B, C, D⟩ := k
  simp only [] at h ⊢
  refine Nat.le_trans ?_ (Nat.mul_le_mul h h)
  have hab : 2 * (A * B) ≤ A * A + B * B := by
    rcases Nat.le_total A B with e | e
    · obtain ⟨t, rfl⟩ := Nat.exists_eq_add_of_le e
      have := Nat.zero_le (t * t)
      grind
    · obtain ⟨t, rfl⟩ := Nat.exists_eq_add_of_le e
      have := Nat.zero_le (t * t)
      grind
  have h1 := Nat.zero_le (C * C)
  have h2 := Nat.zero_le (D * D)
  have e : (A + B + C + D) * (A + B + C + D) = A * A + B * B + 2 * (A * B) + (C * C + D * D + 2 * (C * D)) + 2 * ((C + D) * (A + B)) := by grind
  rw [e]
  omega

theorem det_288 {α : Type} (cs : List (α → Int)) (hc : ∀ c ∈ cs, ∀ r, -1 ≤ c r ∧ c r ≤ 1) (l : List α) (hl : l.length = cs.length) (h6 : cs.length ≤ 6) : (det cs l).natAbs ≤ 288 := by
  have two : ∀ (c d : α → Int) (ds : List (α → Int)) (F : Nat) (m : List α), (∀ r, -1 ≤ c r ∧ c r ≤ 1) → (∀ r, -1 ≤ d r ∧ d r ≤ 1) → (∀ k : List α, k.length + 2 = m.length → (det ds k).natAbs ≤ F) → (det (c :: d :: ds) m).natAbs ≤ F * (m.length * m.length / 2) := by
    intro c d ds F m h1 h2 h3
    refine Nat.le_trans (ex2_abs c d m F (det ds) h3) (Nat.mul_le_mul_left _ ?_)
    have := pair_le h1 h2 m
    omega
  have d0 : ∀ m : List α, (det ([] : List (α → Int)) m).natAbs ≤ 1 := fun m => by simp [det]
  have d1 : ∀ (c : α → Int) (m : List α), (∀ r, -1 ≤ c r ∧ c r ≤ 1) → m.length = 1 → (det [c] m).natAbs ≤ 1 := by
    intro c m h hm
    match m, hm with
    | [r], _ => have := h r; simp [det, ex]; omega
  match cs, hc, hl, h6 with
  | [], _, _, _ => have := d0 l; omega
  | [c], hc, hl, _ => have := d1 c l (hc c (by simp)) (by simpa using hl); omega
  | [c, d], hc, hl, _ =>
    have := two c d [] 1 l (hc c (by simp)) (hc d (by simp)) (fun k _ => d0 k)
    rw [hl] at this; simp at this; omega
  | [c, d, e], hc, hl, _ =>
    have := two c d [e] 1 l (hc c (by simp)) (hc d (by simp)) (fun k hk => d1 e k (hc e (by simp)) (by simp at hl; omega))
    rw [hl] at this; simp at this; omega
  | [c, d, e, f], hc, hl, _ =>
    have := two c d [e, f] 2 l (hc c (by simp)) (hc d (by simp)) (fun k hk => by
      have := two e f [] 1 k (hc e (by simp)) (hc f (by simp)) (fun k _ => d0 k)
      rw [show k.length = 2 by simp at hl; omega] at this; simpa using this)
    rw [hl] at this; simp at this; omega
  | [c, d, e, f, g], hc, hl, _ =>
    have := two c d [e, f, g] 4 l (hc c (by simp)) (hc d (by simp)) (fun k hk => by
      have hk3 : k.length = 3 := by simp at hl; omega
      have := two e f [g] 1 k (hc e (by simp)) (hc f (by simp)) (fun j hj => d1 g j (hc g (by simp)) (by omega))
      rw [hk3] at this; simpa using this)
    rw [hl] at this; simp at this; omega
  | [c, d, e, f, g, h], hc, hl, _ =>
    have := two c d [e, f, g, h] 16 l (hc c (by simp)) (hc d (by simp)) (fun k hk => by
      have hk4 : k.length = 4 := by simp at hl; omega
      have := two e f [g, h] 2 k (hc e (by simp)) (hc f (by simp)) (fun j hj => by
        have := two g h [] 1 j (hc g (by simp)) (hc h (by simp)) (fun k _ => d0 k)
        rw [show j.length = 2 by omega] at this; simpa using this)
      rw [hk4] at this; simpa using this)
    rw [hl] at this; simp at this; omega
  | _ :: _ :: _ :: _ :: _ :: _ :: _ :: _, _, _, h6 => simp at h6
end Go.Proofs.YtlffndehhhpgjaaGreat

namespace Go.Proofs.YtlffndehhhpgjaaGreat
set_option linter.unusedVariables false
set_option linter.unusedSimpArgs false

theorem RInv.piv_288 {W N : Nat} {A0 : Nat → Vec} {j : Nat} {L : List (List Int)} {J : List Nat} (h : RInv W N A0 j L J) (hN : N ≤ 6) (h1 : ∀ x ∈ J, ∀ r, -1 ≤ A0 r x ∧ A0 r x ≤ 1) {k : Nat} (hk : k < J.length) :
    0 < rowv L k (jf J k) ∧ rowv L k (jf J k) ≤ 288 := by
  have hp := (h.pp k hk).2
  refine ⟨hp, ?_⟩
  obtain ⟨A, hs, hA⟩ := h.st
  have hd := det_288 (pcols (jf J) A J.length) (fun x hx r => by
    obtain ⟨k, hk, rfl⟩ := mem_pcols.1 hx
    obtain ⟨q0, e⟩ := hA r
    simp only [e]
    exact h1 _ (by unfold jf; rw [List.getElem?_eq_getElem hk]; exact List.getElem_mem hk) q0) (downs J.length) (by rw [downs_len, pcols_len]) (by rw [pcols_len]; exact Nat.le_trans hs.le hN)
  have h0 := hs.d0
  have hdv := Int.natAbs_dvd_natAbs.2 (hs.piv_dvd hk (h.pp k hk).1)
  have := Nat.le_of_dvd (by omega) hdv
  omega

theorem sys_zero {R : List (List Int)} {n Y : Nat} (h : MaskY R n Y) (hn : n ∉ (rRed R (n + 1)).piv) {q : Nat} (h1 : (pRed R n).2.length ≤ q) (h2 : q < R.length) (c : Nat) : rowv (pRed R n).1 q c = 0 := by
  have hi := pRed_inv R h.wid n (fun j hj q => rowv_le (by decide) (fun r hr => h.one r hr j hj) q)
  rcases Nat.lt_or_ge c n with hc | hc
  · exact hi.zero q h1 h2 c hc
  · by_cases e : c = n
    · subst e
      rcases Classical.em (rowv (pRed R c).1 q c = 0) with e0 | e0
      · exact e0
      · exact absurd (red_more (m := c + 1) h.wid h.one (Nat.le_refl _) h1 h2 e0) hn
    · exact rowv_wid hi.wid q (by omega)

theorem foldl_set_other {α : Type} (f : Nat → α) (g : Nat → Nat) (l : List α) : ∀ (K j : Nat), (∀ a, a < K → g a ≠ j) → ((List.range K).foldl (fun out i => out.set (g i) (f i)) l)[j]? = l[j]?
  | 0, j, _ => by simp
  | K + 1, j, h => by
    rw [List.range_succ, List.foldl_append]
    simp only [List.foldl_cons, List.foldl_nil]
    rw [List.getElem?_set_ne (h K (by omega))]
    exact foldl_set_other f g l K j (fun a ha => h a (by omega))

theorem solved_shape {R : List (List Int)} {n Y : Nat} (h : MaskY R n Y) (hn : n ∉ (rRed R (n + 1)).piv) :
    (solvedR R n).2.2 = true ∧ (solvedR R n).1.length = n ∧ (∀ i, i < (pRed R n).2.length → ratAt (solvedR R n).1 (jf (pRed R n).2 i) = ratioF (rowv (pRed R n).1 i n) (rowv (pRed R n).1 i (jf (pRed R n).2 i))) ∧
    (∀ j, j ∉ (pRed R n).2 → ratAt (solvedR R n).1 j = (0, 1)) := by
  have hi := pRed_inv R h.wid n (fun j hj q => rowv_le (by decide) (fun r hr => h.one r hr j hj) q)
  obtain ⟨e1, e2⟩ := red_same (m := n + 1) h.wid h.one (Nat.le_refl _) (fun q h1 h2 c _ _ => sys_zero h hn h1 h2 c)
  have hl := pRed_len R n
  have hK := hi.K_le
  unfold solvedR
  simp only []
  rw [if_neg hn, e2, ← e1]
  refine ⟨rfl, by rw [foldl_set_len]; simp, fun i hlt => ?_, fun j hj => ?_⟩
  · unfold ratAt
    rw [foldl_set_at (fun i => ratioF (vec (((pRed R n).1.take (pRed R n).2.length)[i]?.getD []) n) (vec (((pRed R n).1.take (pRed R n).2.length)[i]?.getD []) (jf (pRed R n).2 i))) (fun i => jf (pRed R n).2 i) _ _ i hlt (by simp only [List.length_replicate]; exact hi.jf_lt hlt) (fun a b h1 h2 => by have := hi.ech.asc a b h1 h2; omega)]
    rw [List.getElem?_take_of_lt hlt]
    rfl
  · unfold ratAt
    rw [foldl_set_other _ _ _ _ j (fun a ha e => hj (by rw [← e]; exact jf_mem ha)), List.getElem?_replicate]
    split <;> rfl

theorem ratioF_low {a b : Int} (hb : 0 < b) : 0 < (ratioF a b).2 ∧ (ratioF a b).2 ≤ b ∧ (ratioF a b).1.natAbs ≤ a.natAbs ∧ Int.gcd (ratioF a b).1 (ratioF a b).2 = 1 ∧ (ratioF a b).1 * b = a * (ratioF a b).2 := by
  have g1 : 0 < Int.gcd a b := Nat.pos_of_ne_zero fun e => by have := (Int.gcd_eq_zero_iff.1 e).2; omega
  obtain ⟨a1, ha⟩ := Int.gcd_dvd_left a b
  obtain ⟨b1, hb1⟩ := Int.gcd_dvd_right a b
  have hG0 : ((Int.gcd a b : Nat) : Int) ≠ 0 := by omega
  have e : ratioF a b = (a1, b1) := by
    unfold ratioF
    rw [Int.tdiv_eq_of_eq_mul_left hG0 (c := a1) (by rw [Int.mul_comm]; exact ha), Int.tdiv_eq_of_eq_mul_left hG0 (c := b1) (by rw [Int.mul_comm]; exact hb1)]
  rw [e]
  have hb0 : 0 < b1 := by
    rcases Int.lt_or_le 0 b1 with h | h
    · exact h
    · have : ((Int.gcd a b : Nat) : Int) * b1 ≤ 0 := Int.mul_nonpos_of_nonneg_of_nonpos (by omega) h
      omega
  have hg : Int.gcd a1 b1 = 1 := by
    have k1 : Int.gcd (((Int.gcd a b : Nat) : Int) * a1) (((Int.gcd a b : Nat) : Int) * b1) = Int.gcd a b * Int.gcd a1 b1 := by
      rw [Int.gcd_mul_left]; simp
    rw [← ha, ← hb1] at k1
    exact Nat.eq_of_mul_eq_mul_left g1 (by omega)
  refine ⟨hb0, ?_, ?_, hg, ?_⟩
  · have : b1 * 1 ≤ b1 * ((Int.gcd a b : Nat) : Int) := Int.mul_le_mul_of_nonneg_left (by omega) (by omega)
    rw [Int.mul_comm b1 ((Int.gcd a b : Nat) : Int)] at this
    omega
  · have : a1.natAbs ≤ Int.gcd a b * a1.natAbs := Nat.le_mul_of_pos_left _ g1
    have h2 : a.natAbs = Int.gcd a b * a1.natAbs := by
      have := congrArg Int.natAbs ha
      rwa [Int.natAbs_mul, Int.natAbs_natCast] at this
    omega
  · show a1 * b = a * b1
    generalize ((Int.gcd a b : Nat) : Int) = G at ha hb1
    rw [ha, hb1]; grind

theorem sys_le {R : List (List Int)} {n Y : Nat} (h : MaskY R n Y) (i c : Nat) : (rowv (pRed R n).1 i c).natAbs ≤ 720 * Y := by
  unfold rowv
  cases hk : (pRed R n).1[i]? with
  | none => simp [vec]
  | some r =>
    have h2 := (pRed_le (n := n) (Y := Y) h.wid h.le6 (fun r hr c hc => h.one r hr c hc) h.all (Nat.le_refl n) r (List.mem_of_getElem? hk)).2
    have := vec_mem (P := fun x => x.natAbs ≤ 720 * Y) (by simp) (fun x hx => by have := h2 x hx; omega) c
    simpa using this

theorem solved_valid {R : List (List Int)} {n Y : Nat} (h : MaskY R n Y) (hY : Y ≤ 1000000) (hn : n ∉ (rRed R (n + 1)).piv) : (solvedR R n).1.all validR = true ∧ ∀ j, 0 < (ratAt (solvedR R n).1 j).2 := by
  obtain ⟨_, hl, hp, ho⟩ := solved_shape h hn
  have hi := pRed_inv R h.wid n (fun j hj q => rowv_le (by decide) (fun r hr => h.one r hr j hj) q)
  have hv : ∀ j, validR (ratAt (solvedR R n).1 j) = true := by
    intro j
    by_cases hj : j ∈ (pRed R n).2
    · obtain ⟨i, hilt, e⟩ := List.mem_iff_getElem.1 hj
      have ej : jf (pRed R n).2 i = j := by unfold jf; rw [List.getElem?_eq_getElem hilt]; simpa using e
      rw [← ej, hp i hilt]
      obtain ⟨b1, b2⟩ := hi.piv_288 h.le6 (fun x hx r => rowv_le (by decide) (fun r hr => h.one r hr x (hi.lt x hx)) r) hilt
      have b3 := sys_le h i n
      obtain ⟨c1, c2, c3, c4, _⟩ := ratioF_low (a := rowv (pRed R n).1 i n) b1
      have b4 : 720 * Y ≤ 720000000 := by omega
      rw [validR_iff]
      exact ⟨by omega, by omega, by omega, by omega, c4⟩
    · rw [ho j hj]; decide
  refine ⟨List.all_eq_true.2 fun r hr => ?_, fun j => ?_⟩
  · obtain ⟨j, hj, e⟩ := List.mem_iff_getElem.1 hr
    have := hv j
    unfold ratAt at this
    rw [List.getElem?_eq_getElem hj] at this
    rw [← e]; exact this
  · have := (validR_iff.1 (hv j)).1; omega

theorem sm_succ (f : Nat → Int) (n : Nat) : sm f (n + 1) = sm f n + f n := rfl

theorem solved_row {R : List (List Int)} {n Y : Nat} (h : MaskY R n Y) (hY : Y ≤ 1000000) (hn : n ∉ (rRed R (n + 1)).piv) {u : Vec} (hu : Sp (RB R.length (rowv R)) u) :
    sm (fun j => u j * numP (solvedR R n).1 n j) n = u n * denP (solvedR R n).1 n := by
  obtain ⟨_, hl, hp, ho⟩ := solved_shape h hn
  obtain ⟨_, hpos⟩ := solved_valid h hY hn
  have hi := pRed_inv R h.wid n (fun j hj q => rowv_le (by decide) (fun r hr => h.one r hr j hj) q)
  have hden : denP (solvedR R n).1 n ≠ 0 := denP_ne (fun k => by have := hpos k; omega) n
  have hnum := fun i (hi : i < n) => numP_eq (x := (solvedR R n).1) (W := n) hi
  generalize (solvedR R n).1 = X at hl hp ho hpos hden hnum ⊢
  have hsp := (hi.span (fun q h1 h2 c => sys_zero h hn h1 h2 c)).2 hu
  have key := dotS_sp (B := RB (pRed R n).2.length (rowv (pRed R n).1)) (h := fun c => if c < n then numP X n c else -denP X n) (n := n + 1) (by
    rintro v ⟨k, hk, rfl⟩
    have hkn := hi.jf_lt hk
    unfold dotS
    rw [sm_succ, sm_congr (g := fun c => rowv (pRed R n).1 k c * numP X n c) (fun c hc => by simp only [if_pos hc])]
    simp only [Nat.lt_irrefl, if_false]
    rw [sm_single hkn (fun c hc hne => ?_)]
    · have e1 := hnum _ hkn
      rw [hp k hk] at e1
      have hb := (hi.pp k hk).2
      obtain ⟨c1, _, _, _, c5⟩ := ratioF_low (a := rowv (pRed R n).1 k n) hb
      -- num * b2 = b1 * den, b1 * b = a * b2
      generalize rowv (pRed R n).1 k (jf (pRed R n).2 k) = b at *
      generalize rowv (pRed R n).1 k n = a at *
      generalize ratioF a b = p at *
      obtain ⟨b1, b2⟩ := p
      dsimp only at *
      have e2 : b2 * (b * numP X n (jf (pRed R n).2 k)) = b2 * (a * denP X n) := by
        have : b2 * (b * numP X n (jf (pRed R n).2 k)) = b * (numP X n (jf (pRed R n).2 k) * b2) := by grind
        rw [this, e1]
        have : b * (b1 * denP X n) = (b1 * b) * denP X n := by grind
        rw [this, c5]; grind
      have e3 := Int.eq_of_mul_eq_mul_left (show b2 ≠ 0 by omega) e2
      rw [e3, Int.mul_neg]; omega
    · by_cases hm : c ∈ (pRed R n).2
      · obtain ⟨q, hq, e⟩ := List.mem_iff_getElem.1 hm
        have ej : jf (pRed R n).2 q = c := by unfold jf; rw [List.getElem?_eq_getElem hq]; simpa using e
        have hqk : q ≠ k := fun e2 => hne (by rw [← ej, e2])
        rw [← ej, hi.ech.red.off k hk q hq (fun e3 => hqk e3.symm)]
        simp
      · have e1 := hnum c hc
        rw [ho c hm] at e1
        simp at e1
        rw [e1]; simp) hsp
  unfold dotS at key
  rw [sm_succ, sm_congr (g := fun c => u c * numP X n c) (fun c hc => by simp only [if_pos hc])] at key
  simp only [Nat.lt_irrefl, if_false] at key
  rw [Int.mul_neg] at key
  omega
end Go.Proofs.YtlffndehhhpgjaaGreat

namespace Go.Proofs.YtlffndehhhpgjaaGreat
set_option linter.unusedVariables false
set_option linter.unusedSimpArgs false

theorem withY_trunc {M : List (List Int)} {n : Nat} (h : MaskOk M n) {y : List Int} (hy : y.length = M.length) {q : Nat} (hq : q < M.length) : truncV n (rowv (withY M y) q) = rowv M q := by
  funext c
  unfold truncV
  by_cases hc : c < n
  · rw [if_pos hc, withY_row h hy hq, if_pos hc]
  · rw [if_neg hc, rowv_wid h.wid q (by omega)]

theorem withY_piv {M : List (List Int)} {n : Nat} (h : MaskOk M n) {y : List Int} (hy : y.length = M.length) {Y : Nat} (hY : MaskY (withY M y) n Y) : (pRed (withY M y) n).2 = JP M n := by
  have he := pRed_inv (withY M y) hY.wid n (fun j hj q => rowv_le (by decide) (fun r hr => hY.one r hr j hj) q)
  rw [withY_len hy] at he
  have hi := h.inv n
  have hE : Ech (pRed (withY M y) n).2.length (jf (pRed (withY M y) n).2) (fun k => truncV n (rowv (pRed (withY M y) n).1 k)) := by
    have e := he.ech
    refine ⟨⟨fun k hk => ?_, fun k hk q hq hne => ?_⟩, fun k hk c hc => ?_, e.asc⟩
    · have hl := he.jf_lt hk
      simp only [truncV, if_pos hl]
      exact e.red.piv k hk
    · have hl := he.jf_lt hq
      simp only [truncV, if_pos hl]
      exact e.red.off k hk q hq hne
    · simp only [truncV]
      split
      · exact e.lead k hk c hc
      · rfl
  have s1 : ∀ k, k < (pRed (withY M y) n).2.length → Sp (RB (JP M n).length (rowv (RP M n))) (truncV n (rowv (pRed (withY M y) n).1 k)) := by
    intro k hk
    refine h.span.2 (truncV_sp (B := RB M.length (rowv (withY M y))) ?_ (he.sp1 k (Nat.lt_of_lt_of_le hk he.K_le)))
    rintro v ⟨q, hq, rfl⟩
    rw [withY_trunc h hy hq]; exact RB.sp hq
  have s2 : ∀ k, k < (JP M n).length → Sp (RB (pRed (withY M y) n).2.length (fun k => truncV n (rowv (pRed (withY M y) n).1 k))) (rowv (RP M n) k) := by
    intro k hk
    refine (h.span.1 (RB.sp hk)).trans ?_
    rintro v ⟨q, hq, rfl⟩
    rw [← withY_trunc h hy hq]
    refine truncV_sp (B := RB M.length (rowv (pRed (withY M y) n).1)) ?_ (he.sp2 q hq)
    rintro v ⟨m, hm, rfl⟩
    rcases Nat.lt_or_ge m (pRed (withY M y) n).2.length with c | c
    · exact .of ⟨m, c, rfl⟩
    · refine Sp.zero.congr fun x => ?_
      unfold truncV
      split
      · exact he.zero m c hm x ‹_›
      · rfl
  obtain ⟨hK, hJ, hR⟩ := hE.unique hi.ech s1 s2
  exact List.ext_getElem hK fun k h1 h2 => by
    have := hJ k h1
    unfold jf at this
    rw [List.getElem?_eq_getElem h1, List.getElem?_eq_getElem h2] at this
    simpa using this

end Go.Proofs.YtlffndehhhpgjaaGreat

namespace Go.Proofs.YtlffndehhhpgjaaGreat
set_option linter.unusedVariables false
set_option linter.unusedSimpArgs false

theorem denP_pos {x : List Rt} (h : ∀ k, 0 < (ratAt x k).2) : ∀ k, 0 < denP x k
  | 0 => by show (0 : Int) < 1; decide
  | k + 1 => Int.mul_pos (denP_pos h k) (h k)

theorem solve_of {M : List (List Int)} {n : Nat} (h : MaskOk M n) {y : List Int} (hy : y.length = M.length) (hmil : ∀ v ∈ y, -1000000 ≤ v ∧ v ≤ 1000000) (hr : rankF M n = n)
    {l : Nat → Int} {D : Int} (hD : D ≠ 0) (hl : ∀ q, q < M.length → sm (fun i => rowv M q i * l i) n = vec y q * D) :
    (solveP (withY M y) n).2 = 0 ∧ (solveP (withY M y) n).1.length = n ∧ ∀ k, k < n → (ratAt (solveP (withY M y) n).1 k).1 * D = l k * (ratAt (solveP (withY M y) n).1 k).2 ∧ 0 < (ratAt (solveP (withY M y) n).1 k).2 ∧ (ratAt (solveP (withY M y) n).1 k).2 ≤ 288 ∧ Int.gcd (ratAt (solveP (withY M y) n).1 k).1 (ratAt (solveP (withY M y) n).1 k).2 = 1 := by
  have hY := h.addY hy (Y := 1000000) (by decide) (by simpa using hmil)
  have hi := pRed_inv (withY M y) hY.wid n (fun j hj q => rowv_le (by decide) (fun r hr => hY.one r hr j hj) q)
  have hpiv := withY_piv h hy hY
  have hJl : (pRed (withY M y) n).2.length = n := by rw [hpiv]; exact hr
  have hasc : (pRed (withY M y) n).2 = List.range' 0 n := asc_full hi.asc (fun x hx => by have := hi.lt x hx; omega) hJl
  have hjf : ∀ k, k < n → jf (pRed (withY M y) n).2 k = k := fun k hk => by
    rw [hasc]; unfold jf; rw [List.getElem?_range' hk]; simp
  have hlen : (withY M y).length = M.length := withY_len hy
  have hdot : ∀ u, Sp (RB (withY M y).length (rowv (withY M y))) u → dotS u (fun c => if c < n then l c else -D) (n + 1) = 0 := by
    intro u hu
    refine dotS_sp ?_ hu
    rintro v ⟨q, hq, rfl⟩
    rw [hlen] at hq
    unfold dotS
    rw [sm_succ, sm_congr (g := fun i => rowv M q i * l i) (fun c hc => by simp only [if_pos hc]; rw [withY_row h hy hq, if_pos hc]), hl q hq]
    simp only [Nat.lt_irrefl, if_false]
    rw [withY_row h hy hq, if_neg (by omega), if_pos rfl]
    rw [Int.mul_neg]; omega
  have hsp1 := hi.sp1
  rw [← hlen] at hy
  -- the rows behind the pivots
  have h0 : ∀ q, n ≤ q → q < (withY M y).length → rowv (pRed (withY M y) n).1 q n = 0 := by
    intro q h1 h2
    have hd := hdot _ (hsp1 q h2)
    unfold dotS at hd
    rw [sm_succ, sm_congr (g := fun _ => 0) (fun c hc => by simp only [if_pos hc]; rw [hi.zero q (by omega) h2 c hc]; simp), sm_zero] at hd
    simp only [Nat.lt_irrefl, if_false] at hd
    rcases Int.mul_eq_zero.1 (show rowv (pRed (withY M y) n).1 q n * -D = 0 by omega) with e | e
    · exact e
    · omega
  have hpl := pRed_len (withY M y) n
  have hany : ((pRed (withY M y) n).1.drop (pRed (withY M y) n).2.length).any (nz n) = false := by
    rw [List.any_eq_false]
    intro r hr2
    obtain ⟨i, hilt, rfl⟩ := List.mem_iff_getElem.1 hr2
    rw [List.getElem_drop]
    rw [List.length_drop] at hilt
    have := h0 ((pRed (withY M y) n).2.length + i) (by omega) (by omega)
    rw [rowv_lt (by omega)] at this
    simpa [nz] using this
  have hs : solveP (withY M y) n = ((List.range n).map fun k => ofF (vec ((pRed (withY M y) n).1[k]?.getD []) n) (vec ((pRed (withY M y) n).1[k]?.getD []) (jf (pRed (withY M y) n).2 k)), 0) := by
    unfold solveP
    simp only []
    rw [if_neg (by rw [hany]; simp), if_neg (by omega)]
  rw [hs]
  refine ⟨rfl, by simp, fun k hk => ?_⟩
  have hk' : k < (pRed (withY M y) n).2.length := by omega
  have hb := hi.piv_288 (by rw [withY_len (by omega)]; exact h.le6) (fun x hx r => rowv_le (by decide) (fun r hr => hY.one r hr x (hi.lt x hx)) r) hk'
  have e1 : ratAt ((List.range n).map fun k => ofF (vec ((pRed (withY M y) n).1[k]?.getD []) n) (vec ((pRed (withY M y) n).1[k]?.getD []) (jf (pRed (withY M y) n).2 k))) k = ofF (rowv (pRed (withY M y) n).1 k n) (rowv (pRed (withY M y) n).1 k (jf (pRed (withY M y) n).2 k)) := by
    unfold ratAt
    rw [List.getElem?_map, List.getElem?_range hk]; rfl
  rw [e1, ofF_pos hb.1]
  have hd := hdot _ (hsp1 k (Nat.lt_of_lt_of_le hk' hi.K_le))
  unfold dotS at hd
  rw [sm_succ, sm_single hk (fun c hc hne => ?_)] at hd
  · simp only [if_pos hk, Nat.lt_irrefl, if_false] at hd
    have hjk := hjf k hk
    rw [hjk] at hb ⊢
    obtain ⟨c1, c2, c3, c4, c5⟩ := ratioF_low (a := rowv (pRed (withY M y) n).1 k n) hb.1
    refine ⟨?_, c1, by omega, c4⟩
    generalize rowv (pRed (withY M y) n).1 k k = b at *
    generalize rowv (pRed (withY M y) n).1 k n = a at *
    generalize ratioF a b = p at *
    obtain ⟨b1, b2⟩ := p
    dsimp only at *
    have e2 : b * (b1 * D) = b * (l k * b2) := by
      have : b * (b1 * D) = (b1 * b) * D := by grind
      rw [this, c5]
      have hd' : b * l k = a * D := by rw [Int.mul_neg] at hd; omega
      have : b * (l k * b2) = (b * l k) * b2 := by grind
      rw [this, hd']; grind
    exact Int.eq_of_mul_eq_mul_left (by omega) e2
  · simp only [if_pos hc]
    have hc' : c < (pRed (withY M y) n).2.length := by omega
    have := hi.ech.red.off k hk' c hc' (fun e => hne e.symm)
    rw [hjf c hc] at this
    rw [this]; simp

theorem solve_to {M : List (List Int)} {n : Nat} (h : MaskOk M n) {y : List Int} (hy : y.length = M.length) (hmil : ∀ v ∈ y, -1000000 ≤ v ∧ v ≤ 1000000) (he : (solveP (withY M y) n).2 = 0) :
    rankF M n = n ∧ ∃ (l : Nat → Int) (D : Int), 0 < D ∧ (∀ q, q < M.length → sm (fun i => rowv M q i * l i) n = vec y q * D) ∧ ∀ k, k < n → (ratAt (solveP (withY M y) n).1 k).1 * D = l k * (ratAt (solveP (withY M y) n).1 k).2 := by
  have hY := h.addY hy (Y := 1000000) (by decide) (by simpa using hmil)
  have hi := pRed_inv (withY M y) hY.wid n (fun j hj q => rowv_le (by decide) (fun r hr => hY.one r hr j hj) q)
  have hpiv := withY_piv h hy hY
  have hle := asc_le (a := 0) (b := n) hi.asc (fun x hx => ⟨Nat.zero_le _, hi.lt x hx⟩)
  have hge : n ≤ (pRed (withY M y) n).2.length := by
    unfold solveP at he
    simp only [] at he
    split at he
    · simp at he
    · split at he
      · simp at he
      · omega
  have hr : rankF M n = n := by
    have : rankF M n = (pRed (withY M y) n).2.length := by rw [hpiv]; rfl
    omega
  have hss := solve_same hY
  have hn : n ∉ (rRed (withY M y) (n + 1)).piv := by
    intro hm
    rw [hss] at he
    unfold solveR solvedR at he
    simp only [] at he
    rw [if_pos hm] at he
    simp at he
  have hsv : (solveP (withY M y) n).1 = (solvedR (withY M y) n).1 := by
    rw [hss] at he ⊢
    unfold solveR at he ⊢
    simp only [] at he ⊢
    split at he
    · simp at he
    · rename_i h1
      split at he
      · simp at he
      · rename_i h2
        rw [if_neg h1, if_neg h2]
  obtain ⟨_, hpos⟩ := solved_valid hY (Nat.le_refl _) hn
  refine ⟨hr, numP (solvedR (withY M y) n).1 n, denP (solvedR (withY M y) n).1 n, denP_pos hpos n, fun q hq => ?_, fun k hk => ?_⟩
  · have := solved_row hY (Nat.le_refl _) hn (RB.sp (K := (withY M y).length) (R := rowv (withY M y)) (k := q) (by rw [withY_len hy]; exact hq))
    rw [sm_congr (g := fun i => rowv M q i * numP (solvedR (withY M y) n).1 n i) (fun c hc => by rw [withY_row h hy hq, if_pos hc]), withY_row h hy hq, if_neg (by omega), if_pos rfl] at this
    exact this
  · rw [hsv]
    have := numP_eq (x := (solvedR (withY M y) n).1) (W := n) hk
    omega

end Go.Proofs.YtlffndehhhpgjaaGreat

namespace Go.Proofs.YtlffndehhhpgjaaGreat
set_option linter.unusedVariables false
set_option linter.unusedSimpArgs false

structure Circ (M : List (List Int)) (n : Nat) (c : List Int) : Prop where
  len : c.length = n
  ker : IsKer M n (vec c)
  prim : Prim (vec c)
  pos : 0 < firstNz c
  least : ∀ v, IsKer M n v → (∀ j, j < n → vec c j = 0 → v j = 0) → (∃ j, j < n ∧ v j ≠ 0) → ∀ j, j < n → vec c j ≠ 0 → v j ≠ 0

theorem firstNz_ex : ∀ (l : List Int), firstNz l ≠ 0 → ∃ j, j < l.length ∧ vec l j = firstNz l ∧ ∀ i, i < j → vec l i = 0
  | [], h => by simp [firstNz] at h
  | x :: l, h => by
    by_cases e : x = 0
    · have h1 : firstNz (x :: l) = firstNz l := by show (if x = 0 then firstNz l else x) = _; rw [if_pos e]
      rw [h1] at h ⊢
      obtain ⟨j, hj, h2, h3⟩ := firstNz_ex l h
      refine ⟨j + 1, by simp; omega, by rw [← h2]; simp [vec], fun i hi => ?_⟩
      cases i with
      | zero => simp [vec, e]
      | succ i => have := h3 i (by omega); simpa [vec] using this
    · have h1 : firstNz (x :: l) = x := by show (if x = 0 then firstNz l else x) = _; rw [if_neg e]
      rw [h1]
      exact ⟨0, by simp, by simp [vec], fun i hi => by omega⟩
theorem firstNz_eq : ∀ (l : List Int) (j : Nat), vec l j ≠ 0 → (∀ i, i < j → vec l i = 0) → firstNz l = vec l j
  | [], j, h, _ => by simp [vec] at h
  | x :: l, 0, h, _ => by
    have hx : x ≠ 0 := by simpa [vec] using h
    show (if x = 0 then firstNz l else x) = _
    rw [if_neg hx]; simp [vec]
  | x :: l, j + 1, h, h0 => by
    have hx : x = 0 := by have := h0 0 (by omega); simpa [vec] using this
    show (if x = 0 then firstNz l else x) = _
    rw [if_pos hx, firstNz_eq l j (by simpa [vec] using h) (fun i hi => by have := h0 (i + 1) (by omega); simpa [vec] using this)]
    simp [vec]
theorem vec_ext {l m : List Int} (hl : l.length = m.length) (h : ∀ j, vec l j = vec m j) : l = m :=
  List.ext_getElem hl fun j h1 h2 => by have := h j; rwa [vec_lt h1, vec_lt h2] at this
theorem IsKer.lin {M : List (List Int)} {n : Nat} {u v : Vec} (hu : IsKer M n u) (hv : IsKer M n v) (x y : Int) : IsKer M n (fun c => x * u c + y * v c) := by
  intro q hq
  have h1 := hu q hq
  have h2 := hv q hq
  unfold dotS at *
  rw [sm_congr (g := fun c => x * (rowv M q c * u c) + y * (rowv M q c * v c)) (fun c _ => by grind), sm_add, sm_mul, sm_mul, h1, h2]; simp

theorem Circ.one {M : List (List Int)} {n : Nat} {c d : List Int} (hc : Circ M n c) (hd : Circ M n d) (hs : ∀ j, j < n → vec c j = 0 → vec d j = 0) : c = d := by
  obtain ⟨j0, hj0, e0, z0⟩ := firstNz_ex d (by have := hd.pos; omega)
  rw [hd.len] at hj0
  have hd0 : vec d j0 ≠ 0 := by have := hd.pos; omega
  have hcd := hc.least _ hd.ker hs ⟨j0, hj0, hd0⟩
  -- same support
  have hc0 : vec c j0 ≠ 0 := fun e => hd0 (hs j0 hj0 e)
  have zc : ∀ i, i < j0 → vec c i = 0 := fun i hi => Classical.byContradiction fun h => hcd i (by omega) h (z0 i hi)
  have ec := firstNz_eq c j0 hc0 zc
  have hk : ∀ j, vec d j0 * vec c j = vec c j0 * vec d j := by
    intro j
    rcases Nat.lt_or_ge j n with hj | hj
    · refine Classical.byContradiction fun hne => ?_
      have hv := hc.ker.lin hd.ker (vec d j0) (-(vec c j0))
      have := hc.least _ hv (fun i hi h => by rw [h, hs i hi h]; simp) ⟨j, hj, fun h => hne (by rw [Int.neg_mul] at h; omega)⟩ j0 hj0 hc0
      refine this ?_
      rw [Int.neg_mul, Int.mul_comm]; omega
    · rw [vec_ge (l := c) (c := j) (by rw [hc.len]; exact hj), vec_ge (l := d) (c := j) (by rw [hd.len]; exact hj)]; simp
  refine vec_ext (by rw [hc.len, hd.len]) fun j => prim_eq (x := vec d j0) (y := vec c j0) ?_ ?_ hk hc.prim hd.prim j
  · have := hd.pos; omega
  · have := hc.pos; omega

theorem circ1_circ {M : List (List Int)} {n : Nat} (h : MaskOk M n) {S c : List Int} (hS : SetOk n S) (hne : S ≠ []) (hc : circ1P M n S = some c) : Circ M n c := by
  obtain ⟨f1, f2, _, f4, f5⟩ := circ_facts h hS hne hc
  refine ⟨f1, f2, f4, f5, fun v hv h0 hn j hj hcj => ?_⟩
  refine circ_least h hS hc hv (fun i hi hm => h0 i hi ?_) hn j ((circ_supp h hS hc j).1 hcj)
  exact Classical.byContradiction fun e => hm ((circ_supp h hS hc i).1 e)

theorem comb_nodup0 {n : Nat} {S : List Int} (hS : SetOk n S) : S.length ≤ n := by
  rcases Nat.lt_or_ge n S.length with h | h
  · have h1 := comb_mem n 0 S hS.1 (fun y hy => by have := hS.2 y hy; omega)
    rw [comb_none n S.length 0 h] at h1
    simp at h1
  · exact h
theorem circP_iff {M : List (List Int)} {n : Nat} (h : MaskOk M n) {c : List Int} : c ∈ circP M n ↔ Circ M n c := by
  rw [circP_mem]
  constructor
  · rintro ⟨k, S, hk, hS, hc⟩
    have hl := comb_len _ _ _ S hS
    exact circ1_circ h (comb_ok hS) (fun e => by rw [e] at hl; simp at hl) hc
  · intro hc
    obtain ⟨j0, hj0, e0, _⟩ := firstNz_ex c (by have := hc.pos; omega)
    rw [hc.len] at hj0
    obtain ⟨S, d, hS, _, hne, hsub, hd⟩ := circ_within h _ (vec c) rfl hc.ker ⟨j0, hj0, by have := hc.pos; omega⟩
    have hD := circ1_circ h hS hne hd
    have e := hc.one hD (fun j hj hz => Classical.byContradiction fun hn => by
      have := hsub _ ((circ_supp h hS hd j).1 hn)
      exact (mem_suppL.1 this).2 hz)
    subst e
    obtain ⟨k, hk⟩ : ∃ k, S.length = k + 1 := ⟨S.length - 1, by have := List.length_pos_iff.2 hne; omega⟩
    have h1 : ¬ rankF M n + 1 < S.length := fun hlt => by rw [circ1_many h hlt] at hd; cases hd
    have h2 : S.length ≤ n := by
      have := (comb_nodup0 hS)
      exact this
    have h3 := comb_mem n 0 S hS.1 (fun y hy => by have := hS.2 y hy; omega)
    rw [hk] at h3
    exact ⟨k, S, by omega, h3, hd⟩

theorem comb_nodup : ∀ (m k : Nat) (a : Int), (comb m k a).Nodup
  | _, 0, _ => by unfold comb; simp
  | 0, _ + 1, _ => by unfold comb; simp
  | m + 1, k + 1, a => by
    unfold comb
    rw [List.nodup_append]
    refine ⟨?_, comb_nodup m (k + 1) (a + 1), ?_⟩
    · unfold List.Nodup
      rw [List.pairwise_map]
      exact (comb_nodup m k (a + 1)).imp fun h e => h (by simpa using e)
    · rintro x hx y hy rfl
      obtain ⟨z, _, rfl⟩ := List.mem_map.1 hx
      have := (comb_asc _ _ _ _ hy).2 a (by simp)
      omega

structure Perm2 (n : Nat) (s t : Nat → Nat) : Prop where
  s_lt : ∀ i, i < n → s i < n
  t_lt : ∀ i, i < n → t i < n
  st : ∀ i, i < n → s (t i) = i
  ts : ∀ i, i < n → t (s i) = i
theorem Perm2.symm {n : Nat} {s t : Nat → Nat} (h : Perm2 n s t) : Perm2 n t s := ⟨h.t_lt, h.s_lt, h.ts, h.st⟩
theorem Perm2.perm {n : Nat} {s t : Nat → Nat} (h : Perm2 n s t) : ((List.range n).map s).Perm (List.range n) := by
  refine (List.perm_ext_iff_of_nodup ?_ List.nodup_range).2 fun a => ?_
  · unfold List.Nodup
    rw [List.pairwise_map]
    refine List.nodup_range.imp_of_mem fun {a b} ha hb hne e => hne ?_
    rw [← h.ts a (List.mem_range.1 ha), ← h.ts b (List.mem_range.1 hb), e]
  · rw [List.mem_map, List.mem_range]
    constructor
    · rintro ⟨i, hi, rfl⟩; exact h.s_lt i (List.mem_range.1 hi)
    · intro ha; exact ⟨t a, List.mem_range.2 (h.t_lt a ha), h.st a ha⟩
def sumL (f : Nat → Int) : List Nat → Int
  | [] => 0
  | a :: l => f a + sumL f l
theorem sumL_perm (f : Nat → Int) {l m : List Nat} (h : l.Perm m) : sumL f l = sumL f m := by
  induction h with
  | nil => rfl
  | cons a _ ih => unfold sumL; rw [ih]
  | swap a b l => simp only [sumL]; omega
  | trans _ _ h1 h2 => rw [h1, h2]
theorem sumL_app (f : Nat → Int) : ∀ l m : List Nat, sumL f (l ++ m) = sumL f l + sumL f m
  | [], m => by simp [sumL]
  | a :: l, m => by show f a + sumL f (l ++ m) = _; rw [sumL_app f l m]; simp only [sumL]; omega
theorem sumL_map (f : Nat → Int) (g : Nat → Nat) : ∀ l : List Nat, sumL f (l.map g) = sumL (fun i => f (g i)) l
  | [] => rfl
  | a :: l => by simp only [List.map_cons, sumL]; rw [sumL_map f g l]
theorem sm_sumL (f : Nat → Int) : ∀ n, sm f n = sumL f (List.range n)
  | 0 => rfl
  | n + 1 => by
    rw [List.range_succ, sumL_app, ← sm_sumL f n]
    show sm f n + f n = _
    simp [sumL]
theorem sm_perm {n : Nat} {s t : Nat → Nat} (h : Perm2 n s t) (f : Nat → Int) : sm (fun i => f (s i)) n = sm f n := by
  rw [sm_sumL, sm_sumL, ← sumL_map, sumL_perm f h.perm]

def Moved (M P : List (List Int)) (n : Nat) (s : Nat → Nat) : Prop := P.length = M.length ∧ ∀ q, q < M.length → ∀ c, c < n → rowv P q c = rowv M q (s c)
theorem Moved.ker {M P : List (List Int)} {n : Nat} {s t : Nat → Nat} (h : Perm2 n s t) (k : Moved M P n s) {v : Vec} (hv : IsKer P n v) : IsKer M n (fun c => v (t c)) := by
  intro q hq
  have h1 := hv q (by rw [k.1]; exact hq)
  unfold dotS at *
  rw [← sm_perm h, sm_congr (g := fun c => rowv P q c * v c) (fun c hc => by show rowv M q (s c) * v (t (s c)) = _; rw [h.ts c hc, k.2 q hq c hc])]
  exact h1

end Go.Proofs.YtlffndehhhpgjaaGreat

namespace Go.Proofs.YtlffndehhhpgjaaGreat
set_option linter.unusedVariables false
set_option linter.unusedSimpArgs false

def SolM (M : List (List Int)) (n : Nat) (y : List Int) (l : Nat → Int) (D : Int) : Prop := 0 < D ∧ ∀ q, q < M.length → sm (fun i => rowv M q i * l i) n = vec y q * D
theorem min_ratio {P : Nat → Prop} {a b : Nat → Int} (ha : ∀ j, P j → 0 ≤ a j) (hb : ∀ j, P j → 0 < b j) : ∀ n : Nat, (∃ j, j < n ∧ P j) → ∃ p, p < n ∧ P p ∧ ∀ j, j < n → P j → a p * b j ≤ a j * b p
  | 0, h => by obtain ⟨j, hj, _⟩ := h; omega
  | n + 1, h => by
    by_cases hn : ∃ j, j < n ∧ P j
    · obtain ⟨p, hp, hP, hmin⟩ := min_ratio ha hb n hn
      by_cases hPn : P n ∧ a n * b p < a p * b n
      · refine ⟨n, by omega, hPn.1, fun j hj hPj => ?_⟩
        rcases Nat.lt_or_ge j n with c | c
        · have h1 := hmin j c hPj
          -- a n / b n < a p / b p ≤ a j / b j
          have hbp := hb p hP
          have hbj := hb j hPj
          have hbn := hb n hPn.1
          have h2 : a n * b j * b p ≤ a j * b n * b p := by
            have e1 : a n * b p * b j ≤ a p * b n * b j := Int.mul_le_mul_of_nonneg_right (by omega) (by omega)
            have e2 : a p * b j * b n ≤ a j * b p * b n := Int.mul_le_mul_of_nonneg_right h1 (by omega)
            have e3 : a n * b j * b p = a n * b p * b j := by grind
            have e4 : a p * b n * b j = a p * b j * b n := by grind
            have e5 : a j * b n * b p = a j * b p * b n := by grind
            omega
          exact Int.le_of_mul_le_mul_right h2 hbp
        · have : j = n := by omega
          subst this; exact Int.le_refl _
      · refine ⟨p, by omega, hP, fun j hj hPj => ?_⟩
        rcases Nat.lt_or_ge j n with c | c
        · exact hmin j c hPj
        · have : j = n := by omega
          subst this
          rcases Int.lt_or_le (a j * b p) (a p * b j) with h1 | h1
          · exact absurd ⟨hPj, h1⟩ hPn
          · exact h1
    · obtain ⟨j, hj, hPj⟩ := h
      have : j = n := by
        rcases Nat.lt_or_ge j n with c | c
        · exact absurd ⟨j, c, hPj⟩ hn
        · omega
      subst this
      exact ⟨j, by omega, hPj, fun i hi hPi => by
        rcases Nat.lt_or_ge i j with c | c
        · exact absurd ⟨i, c, hPi⟩ hn
        · have : i = j := by omega
          subst this; exact Int.le_refl _⟩

theorem sm_nonpos {f : Nat → Int} : ∀ n : Nat, (∀ j, j < n → f j ≤ 0) → sm f n ≤ 0
  | 0, _ => Int.le_refl _
  | n + 1, h => by
    have := sm_nonpos n (fun j hj => h j (by omega))
    have := h n (by omega)
    show sm f n + f n ≤ 0
    omega
theorem dep_circ {M : List (List Int)} {n : Nat} (hM : MaskOk M n) {S : List Int} (hS : SetOk n S) (hne : rankF (colsF M S) S.length ≠ S.length) : ∃ c, c ∈ circP M n ∧ c.length = n ∧ IsKer M n (vec c) ∧ (∀ j : Nat, vec c j ≠ 0 → (j : Int) ∈ S) ∧ ∃ j, j < n ∧ vec c j ≠ 0 := by
  have hrk := (hM.cols S).rank_ker
  have hkl : 0 < (kerSP M S).length := by
    show 0 < (kernP (RP (colsF M S) S.length) (JP (colsF M S) S.length) S.length).length
    omega
  have hm : (kerSP M S)[0] ∈ kerSP M S := List.getElem_mem _
  obtain ⟨u, hu⟩ : ∃ u, u = (kerSP M S)[0] := ⟨_, rfl⟩
  rw [← hu] at hm
  obtain ⟨k1, k2, k3, f, hf, k4⟩ := (hM.cols S).kern hm
  have hv := (spread_ker (M := M) hS).2 k1
  obtain ⟨v, hve⟩ : ∃ v, v = vec (spreadF n S u S.length) := ⟨_, rfl⟩
  have hnz : ∃ j, j < n ∧ v j ≠ 0 := by
    have hf2 := hS.2 S[f] (List.getElem_mem hf)
    refine ⟨(S[f]).toNat, by omega, ?_⟩
    rw [hve]
    exact (spread_nz hS k2).2 ⟨f, hf, by omega, by omega⟩
  rw [← hve] at hv
  obtain ⟨T, c, hT, hTl, hTne, hSub, hcc⟩ := circ_within hM (suppL n v).length v rfl hv hnz
  have hC := circ1_circ hM hT hTne hcc
  obtain ⟨f1, f2, _, f4, f5⟩ := circ_facts hM hT hTne hcc
  refine ⟨c, (circP_iff hM).2 hC, f1, f2, fun j hj => ?_, ?_⟩
  · have h1 := hSub _ ((circ_supp hM hT hcc j).1 hj)
    have h2 := (mem_suppL.1 h1).2
    rw [hve] at h2
    obtain ⟨i, hi, e, _⟩ := (spread_nz hS k2).1 h2
    rw [← e]; exact List.getElem_mem hi
  · obtain ⟨j0, hj0, e0, _⟩ := firstNz_ex c (by omega)
    exact ⟨j0, by omega, by omega⟩

def CostB (M : List (List Int)) (n : Nat) (l w : Nat → Int) : Prop :=
  ∀ c, c ∈ circP M n → ∀ e : Int, (e = 1 ∨ e = -1) → (∀ j, j < n → vec c j ≠ 0 → l j ≠ 0) → (∀ j, j < n → l j * (e * vec c j) ≤ 0) → sm (fun j => w j * (e * vec c j)) n ≤ 0

theorem lp_reduce {M : List (List Int)} {n : Nat} (hM : MaskOk M n) {y : List Int} (w : Nat → Int) : ∀ (s : Nat) (l : Nat → Int) (D : Int), (suppL n l).length = s → SolM M n y l D → CostB M n l w →
    ∃ (k : Nat → Int) (E : Int), SolM M n y k E ∧ rankF (colsF M (suppL n k)) (suppL n k).length = (suppL n k).length ∧ (∀ j, j < n → k j ≠ 0 → 0 < k j * l j) ∧ sm (fun j => w j * k j) n * D ≤ sm (fun j => w j * l j) n * E := by
  intro s
  induction s using Nat.strongRecOn with
  | ind s ih =>
    intro l D hs hl hw
    by_cases hr : rankF (colsF M (suppL n l)) (suppL n l).length = (suppL n l).length
    · refine ⟨l, D, hl, hr, fun j hj h => ?_, Int.le_refl _⟩
      rcases Int.lt_or_gt_of_ne h with c | c
      · exact Int.mul_pos_of_neg_of_neg c c
      · exact Int.mul_pos c c
    · obtain ⟨c, hc, hcl, hck, hcs, hcn⟩ := dep_circ hM (suppL_ok n l) hr
      have hsub : ∀ j, j < n → vec c j ≠ 0 → l j ≠ 0 := fun j hj h => (mem_suppL.1 (hcs j h)).2
      -- the direction: the cost does not grow, and some number becomes less
      have hdir : ∃ e : Int, (e = 1 ∨ e = -1) ∧ 0 ≤ sm (fun j => w j * (e * vec c j)) n ∧ ∃ j, j < n ∧ 0 < l j * (e * vec c j) := by
        have hneg : ∀ e : Int, sm (fun j => w j * (-e * vec c j)) n = -sm (fun j => w j * (e * vec c j)) n := fun e => by
          have := sm_mul (-1) (fun j => w j * (e * vec c j)) n
          rw [← sm_congr (f := fun j => -1 * (w j * (e * vec c j))) (g := fun j => w j * (-e * vec c j)) (fun j _ => by grind), this]
          omega
        have hex : ∀ e : Int, (e = 1 ∨ e = -1) → ¬ (∃ j, j < n ∧ 0 < l j * (e * vec c j)) → ∀ j, j < n → l j * (e * vec c j) ≤ 0 := fun e _ h j hj => by
          rcases Int.lt_or_le 0 (l j * (e * vec c j)) with c1 | c1
          · exact absurd ⟨j, hj, c1⟩ h
          · exact c1
        rcases Int.lt_trichotomy 0 (sm (fun j => w j * (1 * vec c j)) n) with c1 | c1 | c1
        · by_cases h : ∃ j, j < n ∧ 0 < l j * (1 * vec c j)
          · exact ⟨1, .inl rfl, by omega, h⟩
          · have := hw c hc 1 (.inl rfl) hsub (hex 1 (.inl rfl) h)
            omega
        · obtain ⟨j, hj, hcj⟩ := hcn
          have hlj := hsub j hj hcj
          rcases Int.lt_or_gt_of_ne (Int.mul_ne_zero hlj hcj) with c2 | c2
          · refine ⟨-1, .inr rfl, by rw [hneg 1]; omega, j, hj, ?_⟩
            have : l j * (-1 * vec c j) = -(l j * vec c j) := by grind
            omega
          · refine ⟨1, .inl rfl, by omega, j, hj, ?_⟩
            have : l j * (1 * vec c j) = l j * vec c j := by grind
            omega
        · by_cases h : ∃ j, j < n ∧ 0 < l j * (-1 * vec c j)
          · exact ⟨-1, .inr rfl, by rw [hneg 1]; omega, h⟩
          · have := hw c hc (-1) (.inr rfl) hsub (hex (-1) (.inr rfl) h)
            rw [hneg 1] at this
            omega
      obtain ⟨e, he, hσ, hpos⟩ := hdir
      have hen : e ≠ 0 := by rcases he with h | h <;> omega
      obtain ⟨h, hh⟩ : ∃ h : Nat → Int, h = fun j => e * vec c j := ⟨_, rfl⟩
      have hhk : ∀ q, q < M.length → sm (fun i => rowv M q i * h i) n = 0 := fun q hq => by
        have := hck q hq
        unfold dotS at this
        rw [sm_congr (g := fun i => e * (rowv M q i * vec c i)) (fun i _ => by rw [hh]; grind), sm_mul, this]
        simp
      have hhs : ∀ j, j < n → h j ≠ 0 → l j ≠ 0 := fun j hj hz => hsub j hj fun hz2 => hz (by rw [hh]; simp [hz2])
      have hσ' : 0 ≤ sm (fun j => w j * h j) n := by rw [hh]; exact hσ
      have hpos' : ∃ j, j < n ∧ 0 < l j * h j := by rw [hh]; exact hpos
      clear hσ hpos
      -- the least ratio
      obtain ⟨p, hp, hPp, hmin⟩ := min_ratio (P := fun j => 0 < l j * h j) (a := fun j => ((l j).natAbs : Int)) (b := fun j => ((h j).natAbs : Int)) (fun j _ => by omega) (fun j hj => by
        have : h j ≠ 0 := fun hz => by rw [hz] at hj; simp at hj
        omega) n hpos'
      have hhp : h p ≠ 0 := fun hz => by rw [hz] at hPp; simp at hPp
      have hlp : l p ≠ 0 := fun hz => by rw [hz] at hPp; simp at hPp
      obtain ⟨A, hA⟩ : ∃ A : Int, A = ((h p).natAbs : Int) := ⟨_, rfl⟩
      obtain ⟨B, hB⟩ : ∃ B : Int, B = ((l p).natAbs : Int) := ⟨_, rfl⟩
      have hA0 : 0 < A := by omega
      have hB0 : 0 < B := by omega
      obtain ⟨k, hk⟩ : ∃ k : Nat → Int, k = fun j => A * l j - B * h j := ⟨_, rfl⟩
      have hkp : k p = 0 := by
        rw [hk, hA, hB]
        show ((h p).natAbs : Int) * l p - ((l p).natAbs : Int) * h p = 0
        rcases Int.lt_or_gt_of_ne hhp with c1 | c1
        · have c2 : l p < 0 := by
            rcases Int.lt_or_gt_of_ne hlp with c2 | c2
            · exact c2
            · have := Int.mul_neg_of_pos_of_neg c2 c1; omega
          have e1 : ((h p).natAbs : Int) = -h p := by omega
          have e2 : ((l p).natAbs : Int) = -l p := by omega
          rw [e1, e2]; grind
        · have c2 : 0 < l p := by
            rcases Int.lt_or_gt_of_ne hlp with c2 | c2
            · have := Int.mul_neg_of_neg_of_pos c2 c1; omega
            · exact c2
          have e1 : ((h p).natAbs : Int) = h p := by omega
          have e2 : ((l p).natAbs : Int) = l p := by omega
          rw [e1, e2]; grind
      have hkl0 : ∀ j, j < n → k j ≠ 0 → l j ≠ 0 := fun j hj hz hz2 => by
        apply hz
        have h0 : h j = 0 := Classical.byContradiction fun h1 => hhs j hj h1 hz2
        rw [hk]; show A * l j - B * h j = 0
        rw [hz2, h0]; simp
      have hks : ∀ j, j < n → 0 ≤ k j * l j := fun j hj => by
        rw [hk]
        show 0 ≤ (A * l j - B * h j) * l j
        have e1 : (A * l j - B * h j) * l j = A * (l j * l j) - B * (l j * h j) := by grind
        rw [e1]
        have e2 : 0 ≤ A * (l j * l j) := Int.mul_nonneg (by omega) (by
          rcases Int.lt_or_le (l j) 0 with c1 | c1
          · exact Int.le_of_lt (Int.mul_pos_of_neg_of_neg c1 c1)
          · exact Int.mul_nonneg c1 c1)
        rcases Int.lt_or_le 0 (l j * h j) with c1 | c1
        · have h1 : ((l p).natAbs : Int) * ((h j).natAbs : Int) ≤ ((l j).natAbs : Int) * ((h p).natAbs : Int) := hmin j hj c1
          rw [← hA, ← hB] at h1
          -- B * |h j| ≤ |l j| * A, times |l j|
          have h2 : B * ((h j).natAbs : Int) * ((l j).natAbs : Int) ≤ ((l j).natAbs : Int) * A * ((l j).natAbs : Int) := Int.mul_le_mul_of_nonneg_right h1 (by omega)
          have h3 : ((l j).natAbs : Int) * ((l j).natAbs : Int) = l j * l j := by rw [← Int.natCast_mul, ← Int.natAbs_mul, Int.natAbs_of_nonneg]; exact (by
            rcases Int.lt_or_le (l j) 0 with c1 | c1
            · exact Int.le_of_lt (Int.mul_pos_of_neg_of_neg c1 c1)
            · exact Int.mul_nonneg c1 c1)
          have h4 : ((h j).natAbs : Int) * ((l j).natAbs : Int) = l j * h j := by rw [Int.mul_comm, ← Int.natCast_mul, ← Int.natAbs_mul, Int.natAbs_of_nonneg (by omega)]
          have h5 : B * ((h j).natAbs : Int) * ((l j).natAbs : Int) = B * (l j * h j) := by rw [Int.mul_assoc, h4]
          have h6 : ((l j).natAbs : Int) * A * ((l j).natAbs : Int) = A * (l j * l j) := by rw [← h3]; grind
          omega
        · have : B * (l j * h j) ≤ 0 := Int.mul_nonpos_of_nonneg_of_nonpos (by omega) c1
          omega
      have hsol : SolM M n y k (D * A) := by
        refine ⟨Int.mul_pos hl.1 hA0, fun q hq => ?_⟩
        have e1 := hl.2 q hq
        have e2 := hhk q hq
        rw [sm_congr (g := fun i => A * (rowv M q i * l i) + (-B) * (rowv M q i * h i)) (fun i _ => by rw [hk]; grind), sm_add, sm_mul, sm_mul, e1, e2]
        grind
      have hlt : (suppL n k).length < s := by
        rw [← hs]
        have hn1 : (suppL n k).Nodup := (suppL_ok n k).1.imp (fun h => by omega)
        have hpm : (p : Int) ∈ suppL n l := mem_suppL.2 ⟨hp, hlp⟩
        have hpn : (p : Int) ∉ suppL n k := fun hm => (mem_suppL.1 hm).2 hkp
        have := nodup_sub (l := (p : Int) :: suppL n k) (m := suppL n l) (List.nodup_cons.2 ⟨hpn, hn1⟩) (fun x hx => by
          rcases List.mem_cons.1 hx with rfl | hx
          · exact hpm
          · have hb := (suppL_ok n k).2 x hx
            obtain ⟨j, rfl⟩ : ∃ j : Nat, x = (j : Int) := ⟨x.toNat, by omega⟩
            obtain ⟨h1, h2⟩ := mem_suppL.1 hx
            exact mem_suppL.2 ⟨h1, hkl0 j h1 h2⟩)
        simp at this
        omega
      have hw' : CostB M n k w := fun d hd f hf hdl hdn => by
        refine hw d hd f hf (fun j hj hz => hkl0 j hj (hdl j hj hz)) (fun j hj => ?_)
        by_cases hz : vec d j = 0
        · rw [hz]; simp
        · have hkj := hdl j hj hz
          have h1 := hdn j hj
          have h2 := hks j hj
          have hlj := hkl0 j hj hkj
          -- k and l have one sign
          rcases Int.lt_or_gt_of_ne hkj with c1 | c1
          · have c2 : l j < 0 := by
              rcases Int.lt_or_gt_of_ne hlj with c2 | c2
              · exact c2
              · have := Int.mul_neg_of_neg_of_pos c1 c2; omega
            have c3 : 0 ≤ f * vec d j := by
              rcases Int.lt_or_le (f * vec d j) 0 with c3 | c3
              · have := Int.mul_pos_of_neg_of_neg c1 c3; omega
              · exact c3
            exact Int.mul_nonpos_of_nonpos_of_nonneg (by omega) c3
          · have c2 : 0 < l j := by
              rcases Int.lt_or_gt_of_ne hlj with c2 | c2
              · have := Int.mul_neg_of_pos_of_neg c1 c2; omega
              · exact c2
            have c3 : f * vec d j ≤ 0 := by
              rcases Int.lt_or_le 0 (f * vec d j) with c3 | c3
              · have := Int.mul_pos c1 c3; omega
              · exact c3
            exact Int.mul_nonpos_of_nonneg_of_nonpos (by omega) c3
      obtain ⟨z, E, hz1, hz2, hz3, hz4⟩ := ih _ hlt k (D * A) rfl hsol hw'
      refine ⟨z, E, hz1, hz2, fun j hj hzj => ?_, ?_⟩
      · have h1 := hz3 j hj hzj
        have hkj : k j ≠ 0 := fun e0 => by rw [e0] at h1; simp at h1
        have h2 := hks j hj
        have hlj := hkl0 j hj hkj
        rcases Int.lt_or_gt_of_ne hkj with c1 | c1
        · have c2 : l j < 0 := by
            rcases Int.lt_or_gt_of_ne hlj with c2 | c2
            · exact c2
            · have := Int.mul_neg_of_neg_of_pos c1 c2; omega
          have c3 : z j < 0 := by
            rcases Int.lt_or_le (z j) 0 with c3 | c3
            · exact c3
            · have := Int.mul_nonpos_of_nonneg_of_nonpos c3 (show k j ≤ 0 by omega); omega
          exact Int.mul_pos_of_neg_of_neg c3 c2
        · have c2 : 0 < l j := by
            rcases Int.lt_or_gt_of_ne hlj with c2 | c2
            · have := Int.mul_neg_of_pos_of_neg c1 c2; omega
            · exact c2
          have c3 : 0 < z j := by
            rcases Int.lt_or_le 0 (z j) with c3 | c3
            · exact c3
            · have := Int.mul_nonpos_of_nonpos_of_nonneg c3 (show 0 ≤ k j by omega); omega
          exact Int.mul_pos c3 c2
      · -- the cost
        have hcost : sm (fun j => w j * k j) n = A * sm (fun j => w j * l j) n - B * sm (fun j => w j * h j) n := by
          rw [sm_congr (g := fun j => A * (w j * l j) + (-B) * (w j * h j)) (fun i _ => by rw [hk]; grind), sm_add, sm_mul, sm_mul]
          have : -B * sm (fun j => w j * h j) n = -(B * sm (fun j => w j * h j) n) := by grind
          omega
        have hBσ : 0 ≤ B * sm (fun j => w j * h j) n := Int.mul_nonneg (by omega) hσ'
        have hE := hz1.1
        have h1 : sm (fun j => w j * k j) n * E ≤ A * sm (fun j => w j * l j) n * E := Int.mul_le_mul_of_nonneg_right (by omega) (by omega)
        have h2 : sm (fun j => w j * z j) n * D * A ≤ sm (fun j => w j * l j) n * E * A := by
          have e1 : sm (fun j => w j * z j) n * D * A = sm (fun j => w j * z j) n * (D * A) := by grind
          have e2 : sm (fun j => w j * l j) n * E * A = A * sm (fun j => w j * l j) n * E := by grind
          omega
        exact Int.le_of_mul_le_mul_right h2 hA0
end Go.Proofs.YtlffndehhhpgjaaGreat

namespace Go.Proofs.YtlffndehhhpgjaaGreat
set_option linter.unusedVariables false
set_option linter.unusedSimpArgs false

theorem cop_dvd {b a d : Int} (h : Int.gcd a b = 1) (h1 : b ∣ a * d) : b ∣ d := by
  have h2 : b.natAbs ∣ a.natAbs * d.natAbs := by rw [← Int.natAbs_mul]; exact Int.natAbs_dvd_natAbs.2 h1
  have h3 : Nat.Coprime b.natAbs a.natAbs := by rw [Nat.coprime_comm]; exact h
  exact Int.natAbs_dvd_natAbs.1 (h3.dvd_of_dvd_mul_left h2)
theorem ratioF_prime {a b : Int} (h : Int.gcd a b = 1) : ratioF a b = (a, b) := by unfold ratioF; rw [h]; simp
theorem low_facts {n d : Int} (hd : 0 < d) : ∃ g a b : Int, ratioF n d = (a, b) ∧ 0 < g ∧ 0 < b ∧ n = a * g ∧ d = b * g ∧ Int.gcd a b = 1 := by
  obtain ⟨c1, _, _, c4, c5⟩ := ratioF_low (a := n) hd
  obtain ⟨⟨a, b⟩, hab⟩ : ∃ p, p = ratioF n d := ⟨_, rfl⟩
  rw [← hab] at c1 c4 c5
  simp only [] at c1 c4 c5
  -- b divides n * b, so b | a * d, so b | d
  have h1 : b ∣ a * d := ⟨n, by rw [c5]; exact Int.mul_comm _ _⟩
  have h2 : b ∣ d := cop_dvd c4 h1
  obtain ⟨g, hg⟩ := h2
  have hg0 : 0 < g := by
    rcases Int.lt_or_le 0 g with h | h
    · exact h
    · have : b * g ≤ 0 := Int.mul_nonpos_of_nonneg_of_nonpos (by omega) h
      omega
  refine ⟨g, a, b, hab.symm, hg0, c1, ?_, hg, c4⟩
  have : b * n = b * (a * g) := by rw [Int.mul_comm b n, ← c5, hg]; grind
  exact Int.eq_of_mul_eq_mul_left (by omega) this

theorem low_div {n d a b g : Int} (hd : 0 < d) (hg : 0 < g) (hb : 0 < b) (hn : n = a * g) (he : d = b * g) (hc : Int.gcd a b = 1) (k : Int) : n % d * k % d = 0 ↔ b ∣ k := by
  have h1 : n % d * k % d = n * k % d := by rw [Int.mul_emod, Int.emod_emod_of_dvd _ (Int.dvd_refl d), ← Int.mul_emod]
  rw [h1]
  constructor
  · intro h
    obtain ⟨c, hc2⟩ := Int.dvd_of_emod_eq_zero h
    rw [hn, he] at hc2
    have : g * (a * k) = g * (b * c) := by grind
    have h3 := Int.eq_of_mul_eq_mul_left (by omega) this
    exact cop_dvd hc ⟨c, h3⟩
  · rintro ⟨c, rfl⟩
    rw [hn, he]
    refine Int.emod_eq_zero_of_dvd ⟨a * c, by grind⟩
theorem low_val {n d a b g : Int} (hn0 : 0 ≤ n) (hd : 0 < d) (hg : 0 < g) (hn : n = a * g) (he : d = b * g) : n / d * b + n % d * b / d = a := by
  have h1 : n % d * b = d * (a - n / d * b) := by
    have h2 := Int.emod_add_mul_ediv n d  -- n % d + d * (n / d) = n
    have h3 : n % d = n - d * (n / d) := by omega
    rw [h3, Int.sub_mul, Int.mul_sub]
    have : n * b = d * a := by rw [hn, he]; grind
    rw [this]; grind
  rw [h1, Int.mul_ediv_cancel_left _ (by omega)]
  omega
theorem low_nonneg {n d a b g : Int} (hn0 : 0 ≤ n) (hg : 0 < g) (hn : n = a * g) : 0 ≤ a := by
  rcases Int.lt_or_le a 0 with h | h
  · have := Int.mul_neg_of_neg_of_pos h hg; omega
  · exact h
theorem low_neg {n d : Int} (hd : 0 < d) : ratioF (-n) d = (-(ratioF n d).1, (ratioF n d).2) := by
  obtain ⟨g, a, b, e, hg, hb, hn, he, hc⟩ := low_facts (n := n) hd
  rw [e]
  have h2 : ratioF (-n) d = ratioF (-a) b := ratioF_eq hd hb (by rw [hn, he]; grind)
  rw [h2, ratioF_prime (by rw [Int.neg_gcd]; exact hc)]
theorem validR_neg {a b : Int} : validR (-a, b) = validR (a, b) := by
  rw [Bool.eq_iff_iff, validR_iff, validR_iff]
  simp only [Int.neg_gcd]
  constructor <;> (rintro ⟨h1, h2, h3, h4, h5⟩; exact ⟨h1, h2, by omega, by omega, h5⟩)
theorem low_big {n d : Int} (hn0 : 0 ≤ n) (hd : 0 < d) (h : 10000000000 < n / d) : validR (ratioF n d) = false := by
  obtain ⟨g, a, b, e, hg, hb, hn, he, hc⟩ := low_facts (n := n) hd
  rw [e]
  cases hv : validR (a, b)
  · rfl
  · have h1 := (validR_iff.1 hv).2.2.2.1
    simp only [] at h1
    have h2 : n / d ≤ a := by
      have h3 : n / d * d ≤ n := by rw [Int.mul_comm]; exact Int.mul_ediv_self_le (by omega)
      have h4 : n / d * (b * g) ≤ a * g := by rw [← he, ← hn]; exact h3
      have h5 : n / d * b * g ≤ a * g := by rw [Int.mul_assoc]; exact h4
      have h6 := Int.le_of_mul_le_mul_right h5 hg
      have h7 : n / d * 1 ≤ n / d * b := Int.mul_le_mul_of_nonneg_left (by omega) (Int.ediv_nonneg hn0 (by omega))
      omega
    omega

structure CfI (N D n d p q P Q : Int) : Prop where
  n0 : 0 ≤ n
  d0 : 0 ≤ d
  p0 : 0 ≤ p
  q0 : 0 ≤ q
  P0 : 0 ≤ P
  Q0 : 0 ≤ Q
  pm : p ≤ 10000000000
  qm : q ≤ 400
  Pm : P ≤ 10000000000
  Qm : Q ≤ 400
  eN : N = p * n + P * d
  eD : D = q * n + Q * d
  det : p * Q - q * P = 1 ∨ p * Q - q * P = -1
theorem CfI.start {N D : Int} (hN : 0 ≤ N) (hD : 0 < D) : CfI N D N D 1 0 0 1 :=
  ⟨hN, by omega, by omega, by omega, by omega, by omega, by omega, by omega, by omega, by omega, by omega, by omega, .inl (by omega)⟩
theorem CfI.step {N D n d p q P Q : Int} (h : CfI N D n d p q P Q) (hd : 0 < d) (h1 : n / d * p + P ≤ 10000000000) (h2 : n / d * q + Q ≤ 400) : CfI N D d (n % d) (n / d * p + P) (n / d * q + Q) p q := by
  have hk := Int.ediv_nonneg h.n0 (show 0 ≤ d by omega)
  have hm := Int.emod_nonneg n (show d ≠ 0 by omega)
  have he := Int.emod_add_mul_ediv n d
  refine ⟨by omega, hm, ?_, ?_, h.p0, h.q0, h1, h2, h.pm, h.qm, ?_, ?_, ?_⟩
  · have := Int.mul_nonneg hk h.p0; have := h.P0; omega
  · have := Int.mul_nonneg hk h.q0; have := h.Q0; omega
  · rw [h.eN]
    generalize n / d = k at *
    generalize n % d = r at *
    rw [← he]; grind
  · rw [h.eD]
    generalize n / d = k at *
    generalize n % d = r at *
    rw [← he]; grind
  · have := h.det
    generalize n / d = k at *
    have e : (k * p + P) * q - (k * q + Q) * p = -(p * Q - q * P) := by grind
    omega
theorem cop_of_det {p q P Q : Int} (h : p * Q - q * P = 1 ∨ p * Q - q * P = -1) : Int.gcd p q = 1 := by
  have h1 : ((Int.gcd p q : Nat) : Int) ∣ p * Q - q * P := Int.dvd_sub (Int.dvd_trans (Int.gcd_dvd_left _ _) (Int.dvd_mul_right _ _)) (Int.dvd_trans (Int.gcd_dvd_right _ _) (Int.dvd_mul_right _ _))
  have h2 : ((Int.gcd p q : Nat) : Int) ∣ 1 := by
    rcases h with h | h
    · rw [h] at h1; exact h1
    · rw [h] at h1; exact Int.dvd_neg.1 h1
  have := Int.le_of_dvd (by omega) h2
  have h3 : Int.gcd p q ≠ 0 := by
    intro e
    rw [e] at h2
    obtain ⟨c, hc⟩ := h2
    simp at hc
  omega
theorem CfI.done {N D n p q P Q : Int} (h : CfI N D n 0 p q P Q) (hD : 0 < D) : ratioF N D = (p, q) := by
  have eN := h.eN
  have eD := h.eD
  rw [Int.mul_zero, Int.add_zero] at eN eD
  have hq : 0 < q := by
    rcases Int.lt_or_le 0 q with c | c
    · exact c
    · have : q = 0 := by have := h.q0; omega
      rw [this] at eD; omega
  rw [ratioF_eq hD hq (c := p) (by rw [eN, eD]; grind), ratioF_prime (cop_of_det h.det)]
theorem CfI.valid {N D n p q P Q : Int} (h : CfI N D n 0 p q P Q) (hD : 0 < D) : validR (p, q) = true := by
  have e := h.done hD
  obtain ⟨c1, _, _, c4, _⟩ := ratioF_low (a := N) hD
  rw [e] at c1 c4
  rw [validR_iff]
  exact ⟨c1, h.qm, by have := h.p0; show -10000000000 ≤ p; omega, h.pm, c4⟩
end Go.Proofs.YtlffndehhhpgjaaGreat

namespace Go.Proofs.YtlffndehhhpgjaaGreat
set_option linter.unusedVariables false
set_option linter.unusedSimpArgs false

abbrev FitT := List Int × List Rt
def fitF (M : Mask) (y S : List Int) : Option FitT := if (solveV M S y).2 = 0 ∧ (solveV M S y).1.all (fun r => decide (r.1 ≠ 0)) = true then some (S, (solveV M S y).1) else none
def fitsTo (M : Mask) (y : List Int) (W t : Nat) : List FitT := (List.range t).flatMap fun j => (comb W j 0).filterMap (fitF M y)
theorem fitsTo_succ (M : Mask) (y : List Int) (W t : Nat) : fitsTo M y W (t + 1) = fitsTo M y W t ++ (comb W t 0).filterMap (fitF M y) := by
  unfold fitsTo; rw [List.range_succ, List.flatMap_append]; simp
def fitsF (M : Mask) (y : List Int) (k : Nat) : List FitT := fitsTo M y (colsM M) (min (min k (colsM M)) M.length + 1)

theorem fit_some {M : Mask} {y S : List Int} {f : FitT} (h : fitF M y S = some f) : f = (S, (solveV M S y).1) ∧ (solveV M S y).2 = 0 ∧ ∀ r ∈ f.2, r.1 ≠ 0 := by
  unfold fitF at h
  split at h
  · rename_i h1
    cases h
    exact ⟨rfl, h1.1, fun r hr => by simpa using List.all_eq_true.1 h1.2 r hr⟩
  · cases h

def wholeR (r : Rt) : Bool := decide (r.2 = 1) && inB r.1 (-1000000) 1000000
def spreadTo1 (W : Nat) (f : FitT) (k : Nat) : List Int := (List.range k).foldl (fun out i => out.set (f.1[i]?.getD 0).toNat (f.2[i]?.getD (0, 0)).1) (List.replicate W 0)
def spreadI (W : Nat) (f : FitT) : List Int := spreadTo1 W f f.1.length
def wholeOne (W : Nat) (f : FitT) : Option (List Int) := if f.2.all wholeR = true then some (spreadI W f) else none
def wholeF (M : Mask) (y : List Int) (k : Nat) : List (List Int) := (fitsF M y k).filterMap (wholeOne (colsM M))
end Go.Proofs.YtlffndehhhpgjaaGreat

namespace Go.Proofs.YtlffndehhhpgjaaGreat
set_option linter.unusedVariables false
set_option linter.unusedSimpArgs false

def nrmI (l : Nat → Int) (n : Nat) : Int := sm (fun j => ((l j).natAbs : Int)) n
theorem nrmI_pos (l : Nat → Int) : ∀ n, 0 ≤ nrmI l n
  | 0 => Int.le_refl _
  | n + 1 => by
    have := nrmI_pos l n
    show 0 ≤ nrmI l n + ((l n).natAbs : Int)
    omega
def nrmTo (x : List Rt) : Nat → Int × Int
  | 0 => (0, 1)
  | k + 1 => ((nrmTo x k).1 * (ratAt x k).2 + (nrmTo x k).2 * ((ratAt x k).1.natAbs : Int), (nrmTo x k).2 * (ratAt x k).2)
def nrmQ (x : List Rt) : Int × Int := nrmTo x x.length
theorem nrmTo_pos {x : List Rt} (h : ∀ k, 0 < (ratAt x k).2) : ∀ k, 0 < (nrmTo x k).2 ∧ 0 ≤ (nrmTo x k).1
  | 0 => ⟨by show (0 : Int) < 1; omega, Int.le_refl _⟩
  | k + 1 => by
    obtain ⟨h1, h2⟩ := nrmTo_pos h k
    have h3 := h k
    exact ⟨Int.mul_pos h1 h3, Int.add_nonneg (Int.mul_nonneg h2 (by omega)) (Int.mul_nonneg (by omega) (by omega))⟩
theorem nrmTo_val {x : List Rt} {l : Nat → Int} {D : Int} (hD : 0 < D) (hp : ∀ k, 0 < (ratAt x k).2) : ∀ n, (∀ k, k < n → (ratAt x k).1 * D = l k * (ratAt x k).2) → (nrmTo x n).1 * D = (nrmTo x n).2 * nrmI l n
  | 0, _ => by simp [nrmTo, nrmI, sm]
  | n + 1, h => by
    have ih := nrmTo_val hD hp n (fun k hk => h k (by omega))
    have e := h n (by omega)
    have e2 : ((ratAt x n).1.natAbs : Int) * D = ((l n).natAbs : Int) * (ratAt x n).2 := by
      have h1 := congrArg Int.natAbs e
      rw [Int.natAbs_mul, Int.natAbs_mul] at h1
      have h2 := hp n
      have h3 : (((ratAt x n).1.natAbs * D.natAbs : Nat) : Int) = (((l n).natAbs * (ratAt x n).2.natAbs : Nat) : Int) := by rw [h1]
      rw [Int.natCast_mul, Int.natCast_mul] at h3
      have h4 : ((D.natAbs : Nat) : Int) = D := by omega
      have h5 : (((ratAt x n).2.natAbs : Nat) : Int) = (ratAt x n).2 := by omega
      rw [h4, h5] at h3
      exact h3
    show ((nrmTo x n).1 * (ratAt x n).2 + (nrmTo x n).2 * ((ratAt x n).1.natAbs : Int)) * D = (nrmTo x n).2 * (ratAt x n).2 * (nrmI l n + ((l n).natAbs : Int))
    generalize (nrmTo x n).1 = a at *
    generalize (nrmTo x n).2 = b at *
    generalize (ratAt x n).2 = c at *
    generalize ((ratAt x n).1.natAbs : Int) = u at *
    generalize ((l n).natAbs : Int) = v at *
    generalize nrmI l n = N at *
    have : (a * c + b * u) * D = (a * D) * c + b * (u * D) := by grind
    rw [this, ih, e2]; grind

def sgnI (z : Int) : Int := if z < 0 then -1 else if z = 0 then 0 else 1
theorem sgnI_abs (z : Int) : sgnI z * z = (z.natAbs : Int) := by unfold sgnI; split <;> (try split) <;> omega
theorem sgnI_same {z k : Int} (h : k ≠ 0 → 0 < k * z) : sgnI z * k = (k.natAbs : Int) := by
  by_cases hk : k = 0
  · subst hk; simp
  · have h1 := h hk
    unfold sgnI
    rcases Int.lt_or_gt_of_ne hk with c | c
    · have : z < 0 := by
        rcases Int.lt_or_le z 0 with c2 | c2
        · exact c2
        · have := Int.mul_nonpos_of_nonpos_of_nonneg (show k ≤ 0 by omega) c2; omega
      rw [if_pos this]; omega
    · have : 0 < z := by
        rcases Int.lt_or_le 0 z with c2 | c2
        · exact c2
        · have := Int.mul_nonpos_of_nonneg_of_nonpos (show 0 ≤ k by omega) c2; omega
      rw [if_neg (by omega), if_neg (by omega)]; omega
theorem sgnI_opp {z h : Int} (h1 : z * h ≤ 0) : sgnI z * h ≤ 0 := by
  unfold sgnI
  split
  · rename_i c
    rcases Int.lt_or_le h 0 with c2 | c2
    · have := Int.mul_pos_of_neg_of_neg c c2; omega
    · omega
  · split
    · simp
    · rename_i c c1
      rcases Int.lt_or_le 0 h with c2 | c2
      · have := Int.mul_pos (show 0 < z by omega) c2; omega
      · omega

theorem lp_norm {M : List (List Int)} {n : Nat} (hM : MaskOk M n) {y : List Int} {l : Nat → Int} {D : Int} (hl : SolM M n y l D) :
    ∃ (k : Nat → Int) (E : Int), SolM M n y k E ∧ rankF (colsF M (suppL n k)) (suppL n k).length = (suppL n k).length ∧ (∀ j, j < n → k j ≠ 0 → 0 < k j * l j) ∧ nrmI k n * D ≤ nrmI l n * E := by
  obtain ⟨k, E, h1, h2, h3, h4⟩ := lp_reduce hM (fun j => sgnI (l j)) _ l D rfl hl (fun c hc e he hs ho => sm_nonpos n fun j hj => sgnI_opp (ho j hj))
  refine ⟨k, E, h1, h2, h3, ?_⟩
  have e1 : sm (fun j => sgnI (l j) * k j) n = nrmI k n := sm_congr fun j hj => sgnI_same (h3 j hj)
  have e2 : sm (fun j => sgnI (l j) * l j) n = nrmI l n := sm_congr fun j hj => sgnI_abs _
  rw [e1, e2] at h4
  exact h4
end Go.Proofs.YtlffndehhhpgjaaGreat

namespace Go.Proofs.YtlffndehhhpgjaaGreat
open Go.RowKit
set_option linter.unusedVariables false
set_option linter.unusedSimpArgs false

def ValB (x : List Rt) : Prop := ∀ k, 1 ≤ (ratAt x k).2 ∧ (ratAt x k).2 ≤ 400 ∧ -10000000000 ≤ (ratAt x k).1 ∧ (ratAt x k).1 ≤ 10000000000
theorem valB_of {x : List Rt} (h : x.all validR = true) : ValB x := fun k => by
  unfold ratAt
  cases e : x[k]? with
  | none => decide
  | some r =>
    have := List.all_eq_true.1 h r (List.mem_of_getElem? e)
    rw [validR_iff] at this
    exact ⟨this.1, this.2.1, this.2.2.1, this.2.2.2.1⟩
def sgL (x : List Rt) : List Int := x.map fun r => if r.1 < 0 then -1 else 1
theorem sgL_one (x : List Rt) : ∀ k, -1 ≤ vec (sgL x) k ∧ vec (sgL x) k ≤ 1 := fun k => by
  unfold vec sgL
  rw [List.getElem?_map]
  cases x[k]? with
  | none => decide
  | some r => simp only [Option.map_some, Option.getD_some]; split <;> decide
theorem nrm_sum (x : List Rt) : ∀ k, k ≤ x.length → nrmTo x k = sumR (sgL x) x k
  | 0, _ => rfl
  | k + 1, h => by
    have ih := nrm_sum x k (by omega)
    have e : vec (sgL x) k = if (ratAt x k).1 < 0 then -1 else 1 := by
      unfold vec sgL ratAt
      rw [List.getElem?_map, List.getElem?_eq_getElem (by omega)]; rfl
    have h0 : vec (sgL x) k ≠ 0 := by rw [e]; split <;> decide
    have e2 : (ratAt x k).1 * vec (sgL x) k = ((ratAt x k).1.natAbs : Int) := by rw [e]; split <;> omega
    show ((nrmTo x k).1 * (ratAt x k).2 + (nrmTo x k).2 * ((ratAt x k).1.natAbs : Int), (nrmTo x k).2 * (ratAt x k).2) = (if vec (sgL x) k ≠ 0 then ((sumR (sgL x) x k).1 * (ratAt x k).2 + (sumR (sgL x) x k).2 * ((ratAt x k).1 * vec (sgL x) k), (sumR (sgL x) x k).2 * (ratAt x k).2) else sumR (sgL x) x k)
    rw [if_pos h0, ih, e2]
theorem nrm_bnd {x : List Rt} (hx : ValB x) {k : Nat} (hk : k ≤ x.length) (h10 : k ≤ 10) : (nrmTo x k).1.natAbs ≤ 10485760000000000000000000000000000000 ∧ 1 ≤ (nrmTo x k).2 ∧ (nrmTo x k).2.natAbs ≤ 104857600000000000000000000 := by
  rw [nrm_sum x k hk]; exact sumR_bnd10 (sgL_one x) hx h10

def SumZ (w : World) (g : Nat) : Prop := w.heap[g]? = some (.cells #[.int .i64 0, .int .u64 0, .int .i64 0, .int .u64 0] 102 (0, 0))
theorem SumZ.sumB {w : World} {g : Nat} (h : SumZ w g) : SumB w g 0 0 := h

set_option maxRecDepth 100000 in
set_option maxHeartbeats 4000000 in
theorem dnorm_c (w : World) (a : Option Addr) (n cap : Nat) (x : List Rt) (hn : x.length = n) (hm : n ≤ 10) (H : RatsAt w a x) (hx : ValB x) :
    Calls Tryz.prog 82 #[.slice a n cap] w fun e w' => e = .returned (sumV (nrmQ x).1 (nrmQ x).2) ∧ Below w.heap.size w w' := by
  have HQ := hid (show nrmQ x = nrmTo x n by unfold nrmQ; rw [hn])
  have HXI := hid (fun (X : World) (hX : Below w.heap.size w X) => H.below hX)
  have HBD := hid (fun j (hj : j ≤ n) => nrm_bnd hx (by omega) (show j ≤ 10 by omega))
  have HBD9 := hid (fun j (hj : j < n) => (nrm_sum x j (by omega)) ▸ sumR_bnd9 (sgL_one x) hx (show j ≤ 9 by omega))
  have HXV := hid hx
  have HN := hid hn
  clear hn H hx
  go_enter Tryz.func82, Tryz.ntmps82
  go_wp2_with (go_at_call 95; refine (wzero_c _).mono ?_; rintro e w3 ⟨rfl, hb3⟩; refine Stop.of ?_)
  refine Stop.go ?_
  have hz : sumV 0 1 = .agg #[.int .i64 0, .int .u64 0, .int .i64 0, .int .u64 1] := by simp [sumV]
  rw [hz]
  clear hz
  obtain ⟨r0, hr0⟩ : ∃ r, r = w.heap.size := ⟨_, rfl⟩
  obtain ⟨w0, hw0⟩ : ∃ w0, w0 = w.alloc (.cells #[.int .i64 0, .int .u64 0, .int .i64 0, .int .u64 0] 102) := ⟨_, rfl⟩
  rw [← hw0] at hb3
  have hZ0 : SumZ w0 r0 := by rw [hw0, hr0]; exact World.alloc_heap_new _ _
  have hb0 : Below w.heap.size w w0 := by rw [hw0]; exact (Below.refl _ _).alloc (Nat.le_refl _) _
  have hZ3 : SumZ w3 r0 := (hb3.block _ hZ0.sumB.lt).trans hZ0
  have hbw3 := chain hb0 hb3
  rw [← hr0]
  go_wp2_with fail
  obtain ⟨wb, hwb⟩ : ∃ wb, wb = w3.alloc (.cells #[.int .i64 0, .int .u64 0, .int .i64 0, .int .u64 1] 102) := ⟨_, rfl⟩
  obtain ⟨g, hg⟩ : ∃ g, g = w3.heap.size := ⟨_, rfl⟩
  have hsb : SumB wb g 0 1 := by rw [hwb, hg]; exact SumB.made w3 ⟨by decide, by decide⟩ ⟨by decide, by decide⟩
  have hZb : SumZ wb r0 := by rw [hwb]; exact (Below.heap_alloc _ _ _ hZ3.sumB.lt).trans hZ3
  have hbb : Below w.heap.size w wb := by rw [hwb]; exact hbw3.alloc hbw3.size _
  have hrg : r0 < g := by rw [hg]; exact hZ3.sumB.lt
  rw [← hwb, ← hg]
  have HSB := hid hsb
  have HZB := hid hZb
  have HBB := hid hbb
  have HRG := hid (show r0 < g ∧ w.heap.size ≤ r0 from ⟨hrg, by rw [hr0]; exact Nat.le_refl _⟩)
  clear hwb hg hsb hZb hbb hrg hZ3 hbw3 hb0 hZ0 hw0 hr0 hb3
  go_loopw [9] (fun i wr => ∃ t : Nat, t ≤ n ∧ i = .int .i64 t ∧ SumB wr g (nrmTo x t).1 (nrmTo x t).2 ∧ SumZ wr r0 ∧ Below w.heap.size w wr) (fun i _ => n - (intOf i).toNat)
  case atStart => exact ⟨0, Nat.zero_le _, rfl, HSB.out, HZB.out, HBB.out⟩
  case round =>
    obtain ⟨t, ht, rfl, hsb, hzb, hbt⟩ := hrel
    by_cases htl : t < n
    · obtain ⟨bx, ox, rfl, hbx, hx0, hx1⟩ := (HXI.out wr hbt) t (by rw [HN.out]; exact htl)
      have hxt : ratAt x t = x[t]'(by rw [HN.out]; exact htl) := by unfold ratAt; rw [List.getElem?_eq_getElem (by rw [HN.out]; exact htl)]; rfl
      rw [← hxt] at hx0 hx1
      have hsr : nrmTo x (t + 1) = ((nrmTo x t).1 * (ratAt x t).2 + (nrmTo x t).2 * ((ratAt x t).1.natAbs : Int), (nrmTo x t).2 * (ratAt x t).2) := rfl
      obtain ⟨k1, k2, k3⟩ := HBD.out t (by omega)
      obtain ⟨m1, m2, m3⟩ := HBD.out (t + 1) (by omega)
      obtain ⟨z1, z2⟩ := HBD9.out t htl
      obtain ⟨x1, x2, x3, x4⟩ := HXV.out t
      rw [hsr] at m1 m2 m3
      have HSR := hid hsr
      obtain ⟨⟨N, D⟩, hND⟩ : ∃ q, q = ratAt x t := ⟨_, rfl⟩
      rw [← hND] at hx0 hx1 m1 m2 m3 x1 x2 x3 x4 HSR
      obtain ⟨⟨sn, sd⟩, hS⟩ : ∃ q, q = nrmTo x t := ⟨_, rfl⟩
      rw [← hS] at hsb k1 k2 k3 m1 m2 m3 z1 z2 HSR
      simp only [] at hx0 hx1 m1 m2 m3 x1 x2 x3 x4 HSR hsb k1 k2 k3 z1 z2
      obtain ⟨A, hA⟩ : ∃ A : Int, A = (N.natAbs : Int) := ⟨_, rfl⟩
      rw [← hA] at m1 HSR
      have e1 : (sn * D).natAbs ≤ 10485760000000000000000000000000000000 := by
        rw [Int.natAbs_mul]
        have : sn.natAbs * D.natAbs ≤ sn.natAbs * 400 := Nat.mul_le_mul_left _ (by omega)
        omega
      have e2 : (sd * (A * 1)).natAbs ≤ 104857600000000000000000000 * 10000000000 := by
        rw [Int.mul_one, Int.natAbs_mul]
        exact Nat.mul_le_mul k3 (by omega)
      have HPL := hid (fun (X : World) => splus_c X sn sd A D 1 (by unfold B127; omega) (by unfold B127; omega) (by omega) (by omega) (by unfold B127; omega) (by unfold B127; omega) (by rw [Int.mul_one]; unfold B127; omega) (by unfold B127; omega))
      rw [Int.mul_one] at HPL
      obtain ⟨n1, n2, pn⟩ := WP.ex sn
      obtain ⟨d1, d2, pd⟩ := WP.ex sd
      obtain ⟨s1, s2, pS⟩ := WP.ex (sn * D + sd * A)
      obtain ⟨q1, q2, pC⟩ := WP.ex (sd * D)
      rw [pn.sum pd, pS.sum pC] at HPL
      simp only [ratV] at HPL
      have HSS := hid (fun (X : World) (hX : SumB X g sn sd) => hX.set pS pC)
      have hcel := hsb.cells pn pd
      have HPN := hid (And.intro pn pd)
      have HSX := hid hsb
      have HZX := hid hzb
      have HBT := hid hbt
      have HAN := hid hA
      clear hsr hbx hxt hsb hzb hbt hcel pn pd pS pC hND hS hA m1 m2 m3 k1 k2 k3 z1 z2 e1 e2
      obtain ⟨wx, hwx⟩ : ∃ wx, wx = wr.alloc (.cells #[.int .i64 A, .int .i64 D] 29) := ⟨_, rfl⟩
      have hbx : Below wr.heap.size wr wx := by rw [hwx]; exact (Below.refl _ _).alloc (Nat.le_refl _) _
      have hsx := HSX.out.keep (hbx.block _ HSX.out.lt)
      obtain ⟨c0, c1, c2, c3, c4⟩ := hsx.cells HPN.out.1 HPN.out.2
      have HWX := hid hwx
      have HBX := hid hbx
      have hA0 : 0 ≤ A ∧ A ≤ 10000000000 := by have := HAN.out; omega
      have HIL := hid (show (t : Int) < (n : Int) by omega)
      have htl2 : (t : Int) < (n : Int) := HIL.out
      rw [hwx] at c0 c1 c2 c3 c4
      clear hwx hbx hsx
      have hcase : (N < 0 ∧ N = -A) ∨ (¬ N < 0 ∧ N = A) := by have := HAN.out; omega
      rcases hcase with ⟨hneg, rfl⟩ | ⟨hneg, rfl⟩
      all_goals
        go_wp2_with (go_at_call 96; refine (HPL.out _).mono ?_; rintro e w4 ⟨rfl, hb4⟩; refine Stop.of ?_)
        refine Stop.go ?_
        rw [← HWX.out] at hb4
        have hbt4 := chain HBX.out hb4
        have hs4 := HSX.out.keep (hbt4.block _ HSX.out.lt)
        clear c0 c1 c2 c3 c4
        obtain ⟨c0, c1, c2, c3, c4⟩ := hs4.cells HPN.out.1 HPN.out.2
        have f0 := c4 0
        have f1 := c4 1
        have f2 := c4 2
        have f3 := c4 3
        have HNS := hid (HSS.out _ hs4)
        obtain ⟨w5, hw5⟩ : ∃ w5, w5 = (((w4.setCell ⟨g, 0, none⟩ (.int .i64 s1)).setCell ⟨g, 1, none⟩ (.int .u64 s2)).setCell ⟨g, 2, none⟩ (.int .i64 q1)).setCell ⟨g, 3, none⟩ (.int .u64 q2) := ⟨_, rfl⟩
        have HW5 := hid hw5
        have k5 : Keep (fun b => b ≠ g) w4 w5 := by rw [hw5]; exact (((Keep.set w4 g 0 _).trans (Keep.set _ g 1 _)).trans (Keep.set _ g 2 _)).trans (Keep.set _ g 3 _)
        have HK5 := hid k5
        have HB4 := hid hbt4
        clear hw5 k5 hbt4 hb4 hs4
        go_wp2
        rw [← HW5.out]
        refine ⟨⟨t + 1, by omega, by go_num, ?_, ?_, ?_⟩, by simp [intOf]; omega⟩
        · rw [HSR.out]
          have := HNS.out
          rw [← HW5.out] at this
          exact this
        · exact (HK5.out.block r0 (Nat.lt_of_lt_of_le HZX.out.sumB.lt HB4.out.size) (by have := HRG.out.1; omega)).trans ((HB4.out.block r0 HZX.out.sumB.lt).trans HZX.out)
        · exact HK5.out.below (chain HBT.out HB4.out) (Nat.le_trans HBT.out.size HB4.out.size) fun b hb => by have := HRG.out; omega
    · obtain rfl : t = n := by omega
      obtain ⟨n1, n2, pn⟩ := WP.ex (nrmTo x t).1
      obtain ⟨d1, d2, pd⟩ := WP.ex (nrmTo x t).2
      obtain ⟨c0, c1, c2, c3, c4⟩ := hsb.cells pn pd
      have z0 : wr.cell? ⟨r0, 0, none⟩ = some (.int .i64 0) := by simp [World.cell?, show wr.heap[r0]? = _ from hzb]
      have z1 : wr.cell? ⟨r0, 1, none⟩ = some (.int .u64 0) := by simp [World.cell?, show wr.heap[r0]? = _ from hzb]
      have z2 : wr.cell? ⟨r0, 2, none⟩ = some (.int .i64 0) := by simp [World.cell?, show wr.heap[r0]? = _ from hzb]
      have z3 : wr.cell? ⟨r0, 3, none⟩ = some (.int .u64 0) := by simp [World.cell?, show wr.heap[r0]? = _ from hzb]
      have y0 : ∀ o, wr.frozen? ⟨r0, o, none⟩ = false := fun o => by simp [World.frozen?, show wr.heap[r0]? = _ from hzb]
      have y1 := y0 0
      have y2 := y0 1
      have y3 := y0 2
      have y4 := y0 3
      have hr0 := hzb.sumB.lt
      obtain ⟨w5, hw5⟩ : ∃ w5, w5 = (((wr.setCell ⟨r0, 0, none⟩ (.int .i64 n1)).setCell ⟨r0, 1, none⟩ (.int .u64 n2)).setCell ⟨r0, 2, none⟩ (.int .i64 d1)).setCell ⟨r0, 3, none⟩ (.int .u64 d2) := ⟨_, rfl⟩
      have hs5 : SumB w5 r0 (nrmTo x t).1 (nrmTo x t).2 := by rw [hw5]; exact hzb.sumB.set pn pd
      have HB5 := hid (show Below w.heap.size w w5 by rw [hw5]; exact below_set (below_set (below_set (below_set hbt HRG.out.2 _ _) HRG.out.2 _ _) HRG.out.2 _ _) HRG.out.2 _ _)
      obtain ⟨g0, g1, g2, g3, _⟩ := hs5.cells pn pd
      have HW5 := hid hw5
      have HSV := hid (show sumV (nrmQ x).1 (nrmQ x).2 = .agg #[.int .i64 n1, .int .u64 n2, .int .i64 d1, .int .u64 d2] by rw [HQ.out, pn.sum pd])
      have hni : ¬ (t : Int) < (t : Int) := by omega
      clear hsb hzb hbt hw5 hs5 pn pd
      go_wp2
      rw [← HW5.out]
      refine bodyPost_ret (v := .agg #[.int .i64 n1, .int .u64 n2, .int .i64 d1, .int .u64 d2]) ?_ rfl ⟨by rw [HSV.out], HB5.out⟩
      simp [results, Tryz.results82, go_sem, g0, g1, g2, g3]
end Go.Proofs.YtlffndehhhpgjaaGreat
