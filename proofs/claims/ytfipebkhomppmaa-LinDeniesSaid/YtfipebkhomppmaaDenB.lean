/- Walk: Makes (package lin). · Walks: Denies, Possible (package lin), Reading, Denies (reference 03). · Plain: what is denied no picture makes, and is not possible. -/
import Derived.Test.YtfipebkhomppmaaWideF
namespace Go.Proofs.Ytfipebkhomppmaa
section
open Go.RowKit Go.Lib
set_option linter.unusedVariables false

def ratAt (x : List Rt) (k : Nat) : Rt := x[k]?.getD (0, 1)
/-- the sum of a row's numbers times fractions, up to pixel k -/
def sumR (r : List Int) (x : List Rt) : Nat → Int × Int
  | 0 => (0, 1)
  | k + 1 => if vec r k ≠ 0 then ((sumR r x k).1 * (ratAt x k).2 + (sumR r x k).2 * ((ratAt x k).1 * vec r k), (sumR r x k).2 * (ratAt x k).2) else sumR r x k
theorem sumR_bnd {r : List Int} {x : List Rt} (h1 : ∀ k, -1 ≤ vec r k ∧ vec r k ≤ 1) (hx : ∀ k, 1 ≤ (ratAt x k).2 ∧ (ratAt x k).2 ≤ 400 ∧ -10000000000 ≤ (ratAt x k).1 ∧ (ratAt x k).1 ≤ 10000000000) :
    ∀ k : Nat, (sumR r x k).1.natAbs ≤ k * 10000000000 * 400 ^ k ∧ 1 ≤ (sumR r x k).2 ∧ (sumR r x k).2.natAbs ≤ 400 ^ k
  | 0 => by simp [sumR]
  | k + 1 => by
    obtain ⟨i1, i2, i3⟩ := sumR_bnd h1 hx k
    obtain ⟨x1, x2, x3, x4⟩ := hx k
    have hv := h1 k
    have hp : 400 ^ (k + 1) = 400 ^ k * 400 := Nat.pow_succ ..
    have hmono : 400 ^ k ≤ 400 ^ (k + 1) := by rw [hp]; omega
    rw [sumR]
    by_cases h0 : vec r k ≠ 0
    · rw [if_pos h0]
      simp only []
      generalize sumR r x k = s at i1 i2 i3
      generalize ratAt x k = q at x1 x2 x3 x4
      obtain ⟨s1, s2⟩ := s
      obtain ⟨q1, q2⟩ := q
      simp only [] at *
      have e1 : (s1 * q2).natAbs ≤ k * 10000000000 * 400 ^ k * 400 := by
        rw [Int.natAbs_mul]; exact Nat.mul_le_mul i1 (by omega)
      have e2 : (s2 * (q1 * vec r k)).natAbs ≤ 400 ^ k * 10000000000 := by
        rw [Int.natAbs_mul]
        refine Nat.mul_le_mul i3 ?_
        rw [Int.natAbs_mul]
        have : q1.natAbs * (vec r k).natAbs ≤ 10000000000 * 1 := Nat.mul_le_mul (by omega) (by omega)
        omega
      have e3 : (s2 * q2).natAbs ≤ 400 ^ k * 400 := by
        rw [Int.natAbs_mul]; exact Nat.mul_le_mul i3 (by omega)
      refine ⟨?_, ?_, by rw [hp]; exact e3⟩
      · have e4 : (k + 1) * 10000000000 * 400 ^ (k + 1) = k * 10000000000 * 400 ^ k * 400 + 400 ^ k * 10000000000 * 400 := by
          rw [hp]
          generalize 400 ^ k = P
          grind
        rw [e4]
        have e5 : 400 ^ k * 10000000000 ≤ 400 ^ k * 10000000000 * 400 := by omega
        omega
      · have := Int.mul_pos (show (0 : Int) < s2 by omega) (show (0 : Int) < q2 by omega)
        omega
    · rw [if_neg h0]
      refine ⟨?_, i2, Nat.le_trans i3 hmono⟩
      refine Nat.le_trans i1 ?_
      exact Nat.mul_le_mul (by omega) hmono
theorem sumR_bnd10 {r : List Int} {x : List Rt} (h1 : ∀ k, -1 ≤ vec r k ∧ vec r k ≤ 1) (hx : ∀ k, 1 ≤ (ratAt x k).2 ∧ (ratAt x k).2 ≤ 400 ∧ -10000000000 ≤ (ratAt x k).1 ∧ (ratAt x k).1 ≤ 10000000000) {k : Nat} (hk : k ≤ 10) :
    (sumR r x k).1.natAbs ≤ 10485760000000000000000000000000000000 ∧ 1 ≤ (sumR r x k).2 ∧ (sumR r x k).2.natAbs ≤ 104857600000000000000000000 := by
  obtain ⟨i1, i2, i3⟩ := sumR_bnd h1 hx k
  have hp : 400 ^ k ≤ 400 ^ 10 := Nat.pow_le_pow_right (by decide) hk
  have e10 : (400 : Nat) ^ 10 = 104857600000000000000000000 := by decide +kernel
  rw [e10] at hp
  refine ⟨?_, i2, by omega⟩
  refine Nat.le_trans i1 ?_
  have : k * 10000000000 * 400 ^ k ≤ 10 * 10000000000 * 104857600000000000000000000 := Nat.mul_le_mul (by omega) hp
  omega

theorem sumR_bnd9 {r : List Int} {x : List Rt} (h1 : ∀ k, -1 ≤ vec r k ∧ vec r k ≤ 1) (hx : ∀ k, 1 ≤ (ratAt x k).2 ∧ (ratAt x k).2 ≤ 400 ∧ -10000000000 ≤ (ratAt x k).1 ∧ (ratAt x k).1 ≤ 10000000000) {k : Nat} (hk : k ≤ 9) :
    (sumR r x k).1.natAbs * 400 ≤ 10485760000000000000000000000000000000 ∧ (sumR r x k).2.natAbs * 400 ≤ 104857600000000000000000000 := by
  obtain ⟨i1, i2, i3⟩ := sumR_bnd h1 hx k
  have hp : 400 ^ k ≤ 400 ^ 9 := Nat.pow_le_pow_right (by decide) hk
  have e9 : (400 : Nat) ^ 9 = 262144000000000000000000 := by decide +kernel
  rw [e9] at hp
  refine ⟨?_, by omega⟩
  have : k * 10000000000 * 400 ^ k ≤ 9 * 10000000000 * 262144000000000000000000 := Nat.mul_le_mul (by omega) hp
  omega

/-- whether a picture of fractions makes a reading -/
def makesB (M : Mask) (x : List Rt) (y : List Int) : Bool :=
  decide (rdE M y = 0) && (decide (x.length = colsM M) && (x.all validR && decide (∀ i, i < M.length → (sumR (M[i]?.getD []) x (colsM M)).1 = (sumR (M[i]?.getD []) x (colsM M)).2 * vec y i)))
theorem mk_no1 {M : Mask} {x : List Rt} {y : List Int} (h : rdE M y ≠ 0) : makesB M x y = false := by unfold makesB; rw [decide_eq_false h]; rfl
theorem mk_no2 {M : Mask} {x : List Rt} {y : List Int} (h : x.length ≠ colsM M) : makesB M x y = false := by unfold makesB; rw [decide_eq_false h]; simp
theorem mk_no3 {M : Mask} {x : List Rt} {y : List Int} (h : x.all validR = false) : makesB M x y = false := by unfold makesB; rw [h]; simp
theorem mk_no4 {M : Mask} {x : List Rt} {y : List Int} {i : Nat} (hi : i < M.length) (h : (sumR (M[i]?.getD []) x (colsM M)).1 ≠ (sumR (M[i]?.getD []) x (colsM M)).2 * vec y i) : makesB M x y = false := by
  have : decide (∀ i, i < M.length → (sumR (M[i]?.getD []) x (colsM M)).1 = (sumR (M[i]?.getD []) x (colsM M)).2 * vec y i) = false := decide_eq_false fun hh => h (hh i hi)
  unfold makesB; rw [this]; simp
theorem mk_yes {M : Mask} {x : List Rt} {y : List Int} (h1 : rdE M y = 0) (h2 : x.length = colsM M) (h3 : x.all validR = true) (h4 : ∀ i, i < M.length → (sumR (M[i]?.getD []) x (colsM M)).1 = (sumR (M[i]?.getD []) x (colsM M)).2 * vec y i) : makesB M x y = true := by
  unfold makesB; rw [decide_eq_true h1, decide_eq_true h2, h3, decide_eq_true h4]; rfl

/-- block g holds a sum n / d -/
def SumB (w : World) (g : Nat) (n d : Int) : Prop := w.heap[g]? = some (.cells #[.int .i64 (n / 18446744073709551616), .int .u64 (n % 18446744073709551616), .int .i64 (d / 18446744073709551616), .int .u64 (d % 18446744073709551616)] 105 (0, 0))
theorem SumB.lt {w : World} {g : Nat} {n d : Int} (h : SumB w g n d) : g < w.heap.size := (Array.getElem?_eq_some_iff.1 h).1
theorem SumB.keep {w w' : World} {g : Nat} {n d : Int} (h : SumB w g n d) (hk : w'.heap[g]? = w.heap[g]?) : SumB w' g n d := hk.trans h
theorem SumB.cells {w : World} {g : Nat} {n d n1 n2 d1 d2 : Int} (h : SumB w g n d) (pn : WP n n1 n2) (pd : WP d d1 d2) : w.cell? ⟨g, 0, none⟩ = some (.int .i64 n1) ∧ w.cell? ⟨g, 1, none⟩ = some (.int .u64 n2) ∧ w.cell? ⟨g, 2, none⟩ = some (.int .i64 d1) ∧ w.cell? ⟨g, 3, none⟩ = some (.int .u64 d2) ∧ ∀ o, w.frozen? ⟨g, o, none⟩ = false := by
  unfold SumB at h
  rw [pn.1, pn.2, pd.1, pd.2]
  exact ⟨by simp [World.cell?, h], by simp [World.cell?, h], by simp [World.cell?, h], by simp [World.cell?, h], fun o => by simp [World.frozen?, h]⟩
theorem SumB.set {w : World} {g : Nat} {n d m e a b c f : Int} (h : SumB w g n d) (pm : WP m a b) (pe : WP e c f) : SumB ((((w.setCell ⟨g, 0, none⟩ (.int .i64 a)).setCell ⟨g, 1, none⟩ (.int .u64 b)).setCell ⟨g, 2, none⟩ (.int .i64 c)).setCell ⟨g, 3, none⟩ (.int .u64 f)) g m e := by
  unfold SumB
  rw [cells_set (cells_set (cells_set (cells_set h 0 _) 1 _) 2 _) 3 _, pm.1, pm.2, pe.1, pe.2]
  simp
theorem SumB.made (w : World) {n d a b c f : Int} (pn : WP n a b) (pd : WP d c f) : SumB (w.alloc (.cells #[.int .i64 a, .int .u64 b, .int .i64 c, .int .u64 f] 105)) w.heap.size n d := by
  unfold SumB
  rw [World.alloc_heap_new, pn.1, pn.2, pd.1, pd.2]

set_option maxRecDepth 100000 in
set_option maxHeartbeats 4000000 in
theorem lmakes_c (w : World) (a a2 a3 : Option Addr) (n cap n2 cap2 n3 cap3 : Nat) (M : Mask) (x : List Rt) (y : List Int) (hn : M.length = n) (hn2 : x.length = n2) (hn3 : y.length = n3) (hm : n ≤ maxLen) (hm2 : n2 ≤ maxLen) (hm3 : n3 ≤ maxLen) (H : RowsAt w a M) (H2 : RatsAt w a2 x) (H3 : IntsAt w a3 y) :
    Calls Try.prog 50 #[.slice a n cap, .slice a2 n2 cap2, .slice a3 n3 cap3] w fun e w' => e = .returned (.bool (makesB M x y)) ∧ Below w.heap.size w w' := by
  have HRD := hid (lreading_c w a a3 n cap n3 cap3 M y hn hn3 hm hm3 H H3)
  have HN1 := hid (mk_no1 (M := M) (x := x) (y := y))
  have HN2 := hid (mk_no2 (M := M) (x := x) (y := y))
  have HN3 := hid (mk_no3 (M := M) (x := x) (y := y))
  obtain ⟨B, hB⟩ : ∃ B, B = makesB M x y := ⟨_, rfl⟩
  rw [← hB] at HN1 HN2 HN3 ⊢
  by_cases h0 : rdE M y = 0
  rotate_left
  · rw [decide_eq_false h0] at HRD
    obtain rfl : B = false := HN1.out h0
    clear hn hn2 hn3 H H2 H3 hB h0 HN2 HN3
    go_enter Try.func50, Try.ntmps50
    go_wp2_with (go_at_call 48; refine HRD.out.mono ?_; rintro e w1 ⟨rfl, hb1⟩)
    go_ret
    exact ⟨rfl, hb1⟩
  rw [decide_eq_true h0] at HRD
  obtain ⟨hok, hyl, hmil⟩ := rd_ok h0
  obtain ⟨hM, h1, h6, hc1, hc10⟩ := okM_ok hok
  obtain ⟨b, off, ra, rc, rfl, hb, hc⟩ := rows_head H (by omega)
  have HCC := hid (fun (X : World) (hX : Below w.heap.size w X) => show X.cell? ⟨b, off, none⟩ = some (.slice ra (colsM M) rc) from (hX.cell (p := ⟨b, off, none⟩) hb).trans hc)
  have HN4 := hid (fun i (hi : i < M.length) h => mk_no4 (x := x) (y := y) hi h)
  have HYS := hid (fun h2 h3 h4 => mk_yes (M := M) (x := x) (y := y) h0 h2 h3 h4)
  rw [← hB] at HYS HN4
  have i0 : (0 : Int) < (n : Int) := by omega
  have HCI := hid (fun (X : World) (hX : Below w.heap.size w X) => containsInv X a2 n2 cap2 x hn2 hm2 (H2.below hX))
  have HRW := hid (fun (X : World) (hX : Below w.heap.size w X) => H.below hX)
  have HXI := hid (fun (X : World) (hX : Below w.heap.size w X) => H2.below hX)
  have HYI := hid (fun (X : World) (hX : Below w.heap.size w X) => H3.below hX)
  have HMW := hid (show ∀ r ∈ M, r.length = colsM M ∧ ∀ k, -1 ≤ vec r k ∧ vec r k ≤ 1 from fun r hr => ⟨hM.wid r hr, hM.one r hr⟩)
  have HYB := hid (mil_le hmil)
  have HN := hid hn
  have HNX := hid hn2
  have HNY := hid hn3
  have HHN := hid (show n3 = n by omega)
  have hn6 : n ≤ 6 := by omega
  obtain ⟨W, hW⟩ : ∃ W, W = colsM M := ⟨_, rfl⟩
  rw [← hW] at HCC HN2 HN4 HYS HMW hc10 hc1
  clear hn hn2 hn3 H H2 H3 hB h0 hok hyl hmil hM h1 h6 hb hc HN1 hW
  by_cases hlw : n2 = W
  rotate_left
  · obtain rfl : B = false := HN2.out (by rw [HNX.out]; exact hlw)
    have hlb : ((n2 : Int) != (W : Int)) = true := by simp; omega
    clear HN3 HN4 HYS HCI HRW HXI HYI HMW HYB
    go_enter Try.func50, Try.ntmps50
    go_wp2_with (go_at_call 48; refine HRD.out.mono ?_; rintro e w1 ⟨rfl, hb1⟩; refine Stop.of ?_)
    refine Stop.go ?_
    have cc := HCC.out _ hb1
    go_wp2
    go_ret
    exact ⟨rfl, hb1⟩
  subst hlw
  have hlb : ((n2 : Int) != (n2 : Int)) = false := by simp
  obtain ⟨V, hV⟩ : ∃ V, V = !x.all validR := ⟨_, rfl⟩
  rw [← hV] at HCI
  have HVV := hid hV.symm
  clear hV
  go_enter Try.func50, Try.ntmps50
  go_wp2_with (go_at_call 48; refine HRD.out.mono ?_; rintro e w1 ⟨rfl, hb1⟩; refine Stop.of ?_)
  refine Stop.go ?_
  have cc := HCC.out _ hb1
  have HB1 := hid hb1
  have HCI1 := hid (HCI.out _ hb1)
  clear hb1 HCI HRD
  go_wp2_with (go_at_call 100; refine HCI1.out.mono ?_; rintro e w2 ⟨rfl, hb2⟩; refine Stop.of ?_)
  refine Stop.go ?_
  have HB2 := hid (chain HB1.out hb2)
  clear hb2 HB1 HCI1 cc HCC
  cases V
  rotate_left
  · obtain rfl : B = false := HN3.out (by have := HVV.out; simpa using this)
    go_wp2
    go_ret
    exact ⟨rfl, HB2.out⟩
  · have hall : x.all validR = true := by have := HVV.out; simpa using this
    have hxv : ∀ k, 1 ≤ (ratAt x k).2 ∧ (ratAt x k).2 ≤ 400 ∧ -10000000000 ≤ (ratAt x k).1 ∧ (ratAt x k).1 ≤ 10000000000 := fun k => by
      unfold ratAt
      cases e : x[k]? with
      | none => decide
      | some r =>
        have := List.all_eq_true.1 hall r (List.mem_of_getElem? e)
        rw [validR_iff] at this
        exact ⟨this.1, this.2.1, this.2.2.1, this.2.2.2.1⟩
    have HXV := hid hxv
    have HYS2 := hid (HYS.out HNX.out hall)
    clear hall hxv HN2 HN3 HYS HVV
    go_wp2
    go_loopw [31] (fun i wr => ∃ k : Nat, k ≤ n ∧ i = .int .i64 k ∧ Below w.heap.size w wr ∧ Hid (∀ q, q < k → (sumR (M[q]?.getD []) x n2).1 = (sumR (M[q]?.getD []) x n2).2 * vec y q)) (fun i _ => n - (intOf i).toNat)
    case atStart => exact ⟨0, Nat.zero_le _, rfl, HB2.out, hid (fun q h => by omega)⟩
    case round =>
      obtain ⟨k, hk, rfl, hbk, HQ⟩ := hrel
      by_cases hlt : k < n
      · have hkM : k < M.length := by rw [HN.out]; exact hlt
        obtain ⟨b5, o5, ra5, rn5, rc5, e5, hb5, hc5, hrn5, hrm5, hri5⟩ := (HRW.out wr hbk) k hkM
        cases e5
        obtain ⟨hwid, hone⟩ := HMW.out _ (List.getElem_mem hkM)
        obtain rfl : rn5 = n2 := by omega
        have hrowe : M[k]?.getD [] = M[k] := by rw [List.getElem?_eq_getElem hkM]; rfl
        have HNK := hid (HN4.out k hkM)
        rw [hrowe] at HNK
        have HQX := hid (fun (h : (sumR M[k] x rn5).1 = (sumR M[k] x rn5).2 * vec y k) => show ∀ q, q < k + 1 → (sumR (M[q]?.getD []) x rn5).1 = (sumR (M[q]?.getD []) x rn5).2 * vec y q from fun q hq => by
          rcases Nat.lt_or_ge q k with h3 | h3
          · exact HQ.out q h3
          · obtain rfl : q = k := by omega
            rw [hrowe]; exact h)
        obtain ⟨R, hR⟩ : ∃ R, R = M[k] := ⟨_, rfl⟩
        rw [← hR] at hri5 hone hwid HNK HQX
        have HBD := hid (fun j (hj : j ≤ 10) => sumR_bnd10 hone HXV.out hj)
        have HBD9 := hid (fun j (hj : j ≤ 9) => sumR_bnd9 hone HXV.out hj)
        have HRI := hid (fun (X : World) (hX : Below wr.heap.size wr X) => hri5.below hX)
        have HONE := hid hone
        have HWID := hid hwid
        have HBK := hid hbk
        have i1 : (k : Int) < (n : Int) := by omega
        clear hR hrowe hri5 hrn5 hkM hone hwid hbk HN4 HQ
        go_wp2_with (go_at_call 102; refine (wzero_c _).mono ?_; rintro e w3 ⟨rfl, hb3⟩; refine Stop.of ?_)
        refine Stop.go ?_
        have hz : sumV 0 1 = .agg #[.int .i64 0, .int .u64 0, .int .i64 0, .int .u64 1] := by simp [sumV]
        rw [hz]
        clear hz
        go_wp2_with fail
        obtain ⟨wb, hwb⟩ : ∃ wb, wb = w3.alloc (.cells #[.int .i64 0, .int .u64 0, .int .i64 0, .int .u64 1] 105) := ⟨_, rfl⟩
        obtain ⟨g, hg⟩ : ∃ g, g = w3.heap.size := ⟨_, rfl⟩
        have hsb : SumB wb g 0 1 := by rw [hwb, hg]; exact SumB.made w3 ⟨by decide, by decide⟩ ⟨by decide, by decide⟩
        have hbb : Below w3.heap.size w3 wb := by rw [hwb]; exact (Below.refl _ _).alloc (Nat.le_refl _) _
        rw [← hwb, ← hg]
        have HSB := hid hsb
        have HBB := hid hbb
        have HB3 := hid hb3
        have HG := hid hg
        clear hwb hg hsb hbb hb3
        obtain ⟨wo, hwo⟩ : ∃ wo, wo = wr := ⟨_, rfl⟩
        subst hwo
        go_loopw [39] (fun i wr => ∃ t : Nat, t ≤ rn5 ∧ i = .int .i64 t ∧ SumB wr g (sumR R x t).1 (sumR R x t).2 ∧ Below w3.heap.size w3 wr) (fun i _ => rn5 - (intOf i).toNat)
        case atStart => exact ⟨0, Nat.zero_le _, rfl, HSB.out, HBB.out⟩
        case round =>
          obtain ⟨t, ht, rfl, hsb, hbt⟩ := hrel
          by_cases htl : t < rn5
          · have hbw : Below wo.heap.size wo wr := HB3.out.trans (hbt.mono HB3.out.size)
            obtain ⟨b6, o6, rfl, hb6, hc6⟩ := (HRI.out wr hbw) t (by rw [HWID.out]; exact htl)
            have hv6 : R[t]?.getD 0 = vec R t := rfl
            rw [hv6] at hc6
            have hone := HONE.out t
            have hsr : sumR R x (t + 1) = if vec R t ≠ 0 then ((sumR R x t).1 * (ratAt x t).2 + (sumR R x t).2 * ((ratAt x t).1 * vec R t), (sumR R x t).2 * (ratAt x t).2) else sumR R x t := rfl
            obtain ⟨v, hv⟩ : ∃ v, v = vec R t := ⟨_, rfl⟩
            rw [← hv] at hc6 hsr hone
            by_cases h0 : v = 0
            · rw [if_neg (by simp [h0])] at hsr
              have hvb : (v != 0) = false := by simp [h0]
              have HSR := hid hsr
              have HSX := hid hsb
              have HBT := hid hbt
              clear hv6 hv hsr hsb hbt hbw
              go_wp2
              refine ⟨⟨t + 1, by omega, by go_num, by rw [HSR.out]; exact HSX.out, HBT.out⟩, by simp [intOf]; omega⟩
            · rw [if_pos h0] at hsr
              have hvb : (v != 0) = true := by simp [h0]
              obtain ⟨k1, k2, k3⟩ := HBD.out t (by omega)
              obtain ⟨m1, m2, m3⟩ := HBD.out (t + 1) (by omega)
              obtain ⟨z1, z2⟩ := HBD9.out t (by omega)
              obtain ⟨x1, x2, x3, x4⟩ := HXV.out t
              obtain ⟨bx, ox, rfl, hbx, hx0, hx1⟩ := (HXI.out wr (chain HBK.out hbw)) t (by rw [HNX.out]; exact htl)
              have hxt : ratAt x t = x[t]'(by rw [HNX.out]; exact htl) := by unfold ratAt; rw [List.getElem?_eq_getElem (by rw [HNX.out]; exact htl)]; rfl
              rw [← hxt] at hx0 hx1
              rw [hsr] at m1 m2 m3
              have HSR := hid hsr
              obtain ⟨⟨N, D⟩, hND⟩ : ∃ q, q = ratAt x t := ⟨_, rfl⟩
              rw [← hND] at hx0 hx1 m1 m2 m3 x1 x2 x3 x4 HSR
              obtain ⟨⟨sn, sd⟩, hS⟩ : ∃ q, q = sumR R x t := ⟨_, rfl⟩
              rw [← hS] at hsb k1 k2 k3 m1 m2 m3 z1 z2 HSR
              simp only [] at hx0 hx1 m1 m2 m3 x1 x2 x3 x4 HSR hsb k1 k2 k3 z1 z2
              have e1 : (sn * D).natAbs ≤ 10485760000000000000000000000000000000 := by
                rw [Int.natAbs_mul]
                have : sn.natAbs * D.natAbs ≤ sn.natAbs * 400 := Nat.mul_le_mul_left _ (by omega)
                omega
              have e2 : (sd * (N * v)).natAbs ≤ 104857600000000000000000000 * 10000000000 := by
                rw [Int.natAbs_mul, Int.natAbs_mul]
                exact Nat.mul_le_mul k3 (by have : N.natAbs * v.natAbs ≤ 10000000000 * 1 := Nat.mul_le_mul (by omega) (by omega); omega)
              have e3 : -10000000000 ≤ N * v ∧ N * v ≤ 10000000000 := by
                have : (N * v).natAbs ≤ 10000000000 * 1 := by rw [Int.natAbs_mul]; exact Nat.mul_le_mul (by omega) (by omega)
                omega
              have HPL := hid (fun (X : World) => splus_c X sn sd N D v (by unfold B127; omega) (by unfold B127; omega) (by omega) (by omega) (by unfold B127; omega) (by unfold B127; omega) (by unfold B127; omega) (by unfold B127; omega))
              obtain ⟨n1, n2, pn⟩ := WP.ex sn
              obtain ⟨d1, d2, pd⟩ := WP.ex sd
              obtain ⟨s1, s2, pS⟩ := WP.ex (sn * D + sd * (N * v))
              obtain ⟨q1, q2, pC⟩ := WP.ex (sd * D)
              rw [pn.sum pd, pS.sum pC] at HPL
              simp only [ratV] at HPL
              have HSS := hid (fun (X : World) (hX : SumB X g sn sd) => hX.set pS pC)
              have hcel := hsb.cells pn pd
              have hgl := hsb.lt
              have HSX := hid hsb
              have HBT := hid hbt
              have HS := hid (fun (X : World) (hX : Below wr.heap.size wr X) => show X.cell? ⟨g, 0, none⟩ = some (.int .i64 n1) ∧ X.cell? ⟨g, 1, none⟩ = some (.int .u64 n2) ∧ X.cell? ⟨g, 2, none⟩ = some (.int .i64 d1) ∧ X.cell? ⟨g, 3, none⟩ = some (.int .u64 d2) ∧ X.cell? ⟨bx, ox + t * 2, none⟩ = some (.int .i64 N) ∧ X.cell? ⟨bx, ox + t * 2 + 1, none⟩ = some (.int .i64 D) from
                ⟨(hX.cell (p := ⟨g, 0, none⟩) hgl).trans hcel.1, (hX.cell (p := ⟨g, 1, none⟩) hgl).trans hcel.2.1, (hX.cell (p := ⟨g, 2, none⟩) hgl).trans hcel.2.2.1, (hX.cell (p := ⟨g, 3, none⟩) hgl).trans hcel.2.2.2.1, (hX.cell (p := ⟨bx, _, none⟩) hbx).trans hx0, (hX.cell (p := ⟨bx, _, none⟩) hbx).trans hx1⟩)
              have htl2 : (t : Int) < (rn5 : Int) := by omega
              clear hv6 hv hsr hsb hbt hbw k1 k2 k3 m1 m2 m3 z1 z2 x1 x2 x3 x4 e1 e2 e3 hND hS pn pd pS pC hcel hx0 hx1 hxt
              go_wp2
              refine plain_region (fun j' X => decide (j' ≤ 6) = true → X.cell? ⟨g, 0, none⟩ = some (.int .i64 n1) ∧ X.cell? ⟨g, 1, none⟩ = some (.int .u64 n2) ∧ X.cell? ⟨g, 2, none⟩ = some (.int .i64 d1) ∧ X.cell? ⟨g, 3, none⟩ = some (.int .u64 d2) ∧ X.cell? ⟨bx, ox + t * 2, none⟩ = some (.int .i64 N) ∧ X.cell? ⟨bx, ox + t * 2 + 1, none⟩ = some (.int .i64 D)) (by kernel_rfl) ?_
              have hbd : Below wr.heap.size wr wr.drew := (Below.refl _ _).drew
              have HSXd := hid (HSX.out.keep (w' := wr.drew) rfl)
              generalize wr.drew = wd at hbd HSXd ⊢
              refine AnyT.takeD (i := 0) (v := .agg #[.int .i64 n1, .int .u64 n2, .int .i64 d1, .int .u64 d2]) rfl rfl (by kernel_rfl) (by kernel_rfl) (by kernel_rfl) (by first | exact (fun _ _ _ h => h) | exact (fun _ _ _ h => absurd h.1 (by simp))) (by kernel_rfl) (by rfl) (by rintro w' ⟨y1, y2, y3, y4, y5, y6⟩; go_simp) (HS.out _ hbd) ?_; go_frame
              refine AnyT.takeD (i := 1) (v := .slice (some ⟨bx, ox, none⟩) rn5 cap2) rfl rfl (by kernel_rfl) (by kernel_rfl) (by kernel_rfl) (by first | exact (fun _ _ _ h => h) | exact (fun _ _ _ h => absurd h.1 (by simp))) (by kernel_rfl) (by rfl) (by rintro w' ⟨y1, y2, y3, y4, y5, y6⟩; go_simp) (HS.out _ hbd) ?_; go_frame
              refine AnyT.takeD (i := 2) (v := .int .i64 t) rfl rfl (by kernel_rfl) (by kernel_rfl) (by kernel_rfl) (by first | exact (fun _ _ _ h => h) | exact (fun _ _ _ h => absurd h.1 (by simp))) (by kernel_rfl) (by rfl) (by rintro w' ⟨y1, y2, y3, y4, y5, y6⟩; go_simp) (HS.out _ hbd) ?_; go_frame
              refine AnyT.takeD (i := 3) (v := .pointer (some ⟨bx, ox + t * 2, none⟩)) rfl rfl (by kernel_rfl) (by kernel_rfl) (by kernel_rfl) (by first | exact (fun _ _ _ h => h) | exact (fun _ _ _ h => absurd h.1 (by simp))) (by kernel_rfl) (by rfl) (by rintro w' ⟨y1, y2, y3, y4, y5, y6⟩; go_simp) (HS.out _ hbd) ?_; go_frame
              refine AnyT.takeD (i := 4) (v := .agg #[.int .i64 N, .int .i64 D]) rfl rfl (by kernel_rfl) (by kernel_rfl) (by kernel_rfl) (by first | exact (fun _ _ _ h => h) | exact (fun _ _ _ h => absurd h.1 (by simp))) (by kernel_rfl) (by rfl) (by rintro w' ⟨y1, y2, y3, y4, y5, y6⟩; go_simp) (HS.out _ hbd) ?_; go_frame
              refine AnyT.takeD (i := 5) (v := .int .i64 v) rfl rfl (by kernel_rfl) (by kernel_rfl) (by kernel_rfl) (by first | exact (fun _ _ _ h => h) | exact (fun _ _ _ h => absurd h.1 (by simp))) (by kernel_rfl) (by rfl) (by rintro w' ⟨y1, y2, y3, y4, y5, y6⟩; go_simp) (HS.out _ hbd) ?_; go_frame
              refine AnyT.next (i := 6) (by kernel_rfl) rfl (wpOp_of_list rfl ?_)
              go_wp2_with (go_at_call 103; refine (HPL.out _).mono ?_; rintro e w4 ⟨rfl, hb4⟩; refine Stop.of ?_)
              refine Stop.go ?_
              have HB4 := hid (chain hbd hb4)
              have hs4 := HSXd.out.keep (hb4.block g HSXd.out.lt)
              obtain ⟨y1, y2, y3, y4, y5, y6⟩ := HS.out _ HB4.out
              have hfz : ∀ o, w4.frozen? ⟨g, o, none⟩ = false := by
                obtain ⟨_, _, p1⟩ := WP.ex sn
                obtain ⟨_, _, p2⟩ := WP.ex sd
                exact (hs4.cells p1 p2).2.2.2.2
              have f0 := hfz 0
              have f1 := hfz 1
              have f2 := hfz 2
              have f3 := hfz 3
              have HST := hid (HSS.out w4 hs4)
              have hg4 : g < w4.heap.size := hs4.lt
              have HBE := hid (show Below w3.heap.size w3 ((((w4.setCell ⟨g, 0, none⟩ (.int .i64 s1)).setCell ⟨g, 1, none⟩ (.int .u64 s2)).setCell ⟨g, 2, none⟩ (.int .i64 q1)).setCell ⟨g, 3, none⟩ (.int .u64 q2)) from by
                have hg3 : w3.heap.size ≤ g := by rw [HG.out]; exact Nat.le_refl _
                exact below_set (below_set (below_set (below_set (HBT.out.trans (HB4.out.mono HBT.out.size)) hg3 0 _) hg3 1 _) hg3 2 _) hg3 3 _)
              clear hs4 hfz HSS HPL hb4 HSXd hbd
              go_wp2
              refine ⟨fun _ => HS.out _ HB4.out, ?_⟩
              refine AnyT.next (i := 7) (by kernel_rfl) rfl (wpOp_of_list rfl ?_)
              go_wp2
              refine ⟨fun h => absurd h (by decide), ?_⟩
              refine AnyT.done (by kernel_rfl) ?_ _
              go_wp2
              refine ⟨⟨t + 1, by omega, by go_num, ?_, HBE.out⟩, by simp [intOf]; omega⟩
              rw [HSR.out]
              exact HST.out
          · obtain rfl : t = rn5 := by omega
            have hbw : Below wo.heap.size wo wr := HB3.out.trans (hbt.mono HB3.out.size)
            obtain ⟨k1, k2, k3⟩ := HBD.out t (by omega)
            have hkY : k < y.length := by rw [HNY.out, HHN.out]; exact hlt
            obtain ⟨by7, oy7, rfl, hby, hcy⟩ := (HYI.out wr (chain HBK.out hbw)) k hkY
            have hvy : y[k]?.getD 0 = vec y k := rfl
            rw [hvy] at hcy
            have hyb := vec_mem (P := fun z => -1000000 ≤ z ∧ z ≤ 1000000) (by decide) HYB.out k
            obtain ⟨yv, hyv⟩ : ∃ v, v = vec y k := ⟨_, rfl⟩
            rw [← hyv] at hcy hyb HNK HQX
            obtain ⟨⟨sn, sd⟩, hS⟩ : ∃ q, q = sumR R x t := ⟨_, rfl⟩
            rw [← hS] at hsb k1 k2 k3 HNK HQX
            simp only [] at hsb k1 k2 k3 HNK HQX
            have e2 : (sd * yv).natAbs ≤ 104857600000000000000000000 * 1000000 := by
              rw [Int.natAbs_mul]
              exact Nat.mul_le_mul k3 (by omega)
            have HCP := hid (fun (X : World) => scompare_c X sn sd yv (by unfold B127; omega) (by omega) (by unfold B127; omega))
            obtain ⟨n1, n2, pn⟩ := WP.ex sn
            obtain ⟨d1, d2, pd⟩ := WP.ex sd
            rw [pn.sum pd] at HCP
            obtain ⟨z0, z1, z2, z3, _⟩ := hsb.cells pn pd
            have l0 := lift_cell hsb.lt z0
            have l1 := lift_cell hsb.lt z1
            have l2 := lift_cell hsb.lt z2
            have l3 := lift_cell hsb.lt z3
            have l4 := lift_cell hby hcy
            have hcz : (cmpI sn (sd * yv) = 0 ↔ sn = sd * yv) := by unfold cmpI; split <;> (try split) <;> omega
            obtain ⟨cv, hcv⟩ : ∃ c, c = cmpI sn (sd * yv) := ⟨_, rfl⟩
            rw [← hcv] at HCP hcz
            have HCZ := hid hcz
            have HBT := hid (chain HBK.out hbw)
            have i3 : (k : Int) < (n3 : Int) := by have := HHN.out; omega
            have i4 : (0 : Int) ≤ (k : Int) := by omega
            clear hbw hkY hvy hyv hS hsb k1 k2 k3 e2 pn pd z0 z1 z2 z3 hcv hcz hcy hbt hyb
            go_wp2
            refine region_lift (by kernel_rfl) (by kernel_rfl) ?_
            repeat (go_big_quiet_step ((go_at_call 104; exact lift_calls (HCP.out _))))
            refine wpQuiet_nil ?_
            rintro _ ⟨X, rfl⟩
            have HFB := hid (chain HBT.out (lift_below wr X))
            clear l0 l1 l2 l3 l4
            by_cases hc0 : cv = 0
            · have hcb : (cv != 0) = false := by simp [hc0]
              have HX := hid (HQX.out (HCZ.out.1 hc0))
              go_wp2
              exact ⟨⟨k + 1, by omega, by go_num, HFB.out, HX⟩, by simp [intOf]; omega⟩
            · have hcb : (cv != 0) = true := by simp [hc0]
              obtain rfl : B = false := HNK.out (fun h => hc0 (HCZ.out.2 h))
              go_wp2
              go_ret
              exact ⟨rfl, HFB.out⟩
      · obtain rfl : k = n := by omega
        obtain rfl : B = true := HYS2.out (fun i hi => HQ.out i (by have := HN.out; omega))
        go_wp2
        go_ret
        exact ⟨rfl, hbk⟩
end

section
open Go.RowKit Go.Lib
set_option linter.unusedVariables false

/-- whether a list is a conflict of a reading -/
def denyB (M : Mask) (y z : List Int) : Bool := decide (rdE M y = 0) && (preB M z && (nilB (backF M (colsM M) z) && decide (dotV z y ≠ 0)))
theorem dn_no1 {M : Mask} {y z : List Int} (h : rdE M y ≠ 0) : denyB M y z = false := by unfold denyB; rw [decide_eq_false h]; rfl
theorem dn_no2 {M : Mask} {y z : List Int} (h : preB M z = false) : denyB M y z = false := by unfold denyB; rw [h]; simp
theorem dn_no3 {M : Mask} {y z : List Int} (h : nilB (backF M (colsM M) z) = false) : denyB M y z = false := by unfold denyB; rw [h]; simp
theorem dn_rest {M : Mask} {y z : List Int} (h1 : rdE M y = 0) (h2 : preB M z = true) (h3 : nilB (backF M (colsM M) z) = true) : denyB M y z = decide (dotV z y ≠ 0) := by unfold denyB; rw [decide_eq_true h1, h2, h3]; rfl

theorem deny1 (w : World) : PredI Try.prog 114 #[] w (fun n => decide (n ≠ 0)) := by
  intro x W hb
  by_cases h : x = 0
  · subst h
    go_enter Try.func114, Try.ntmps114
    go_wp2
    go_ret
    exact ⟨rfl, Below.refl _ _⟩
  · have hd : (x != 0) = true := by simpa using h
    have hd2 : decide (x ≠ 0) = true := by simpa using h
    go_enter Try.func114, Try.ntmps114
    go_wp2
    go_ret
    exact ⟨ret_bool hd2.symm, Below.refl _ _⟩

theorem ne_b (v : Int) : (v != 0) = decide (v ≠ 0) := by rw [Bool.eq_iff_iff]; simp

set_option maxHeartbeats 1000000 in
theorem ldenies_c (w : World) (a a2 a3 : Option Addr) (n cap n2 cap2 n3 cap3 : Nat) (M : Mask) (y z : List Int) (hn : M.length = n) (hn2 : y.length = n2) (hn3 : z.length = n3) (hm : n ≤ maxLen) (hm2 : n2 ≤ maxLen) (hm3 : n3 ≤ maxLen) (H : RowsAt w a M) (H2 : IntsAt w a2 y) (H3 : IntsAt w a3 z) :
    Calls Try.prog 56 #[.slice a n cap, .slice a2 n2 cap2, .slice a3 n3 cap3] w fun e w' => e = .returned (.bool (denyB M y z)) ∧ Below w.heap.size w w' := by
  have HBK := hid (lback_c w a a3 n cap n3 cap3 M z hn hn3 hm hm3 H H3)
  have HRD := hid (fun (X : World) (hX : Below w.heap.size w X) => lreading_c X a a2 n cap n2 cap2 M y hn hn2 hm hm2 (H.below hX) (H2.below hX))
  have HN1 := hid (dn_no1 (M := M) (y := y) (z := z))
  have HN2 := hid (dn_no2 (M := M) (y := y) (z := z))
  have HN3 := hid (dn_no3 (M := M) (y := y) (z := z))
  have HRS := hid (dn_rest (M := M) (y := y) (z := z))
  have hdp : (n : Int) = n := rfl
  have HDT := hid (fun (h1 : rdE M y = 0) (h2 : preB M z = true) (X : World) (hX : Below w.heap.size w X) => by
    obtain ⟨hok, hyl, hmil⟩ := rd_ok h1
    obtain ⟨_, hzl, hzm⟩ := pre_ok h2
    obtain ⟨_, _, h6, _⟩ := okM_ok hok
    exact pdot_c X a3 a2 n3 cap3 n2 cap2 z y hn3 hn2 (by omega) (by omega) (H3.below hX) (H2.below hX) (mil_bnd hzm) (mil_bnd hmil))
  have HW10 := hid (show preB M z = true → colsM M ≤ 10 from fun h2 => by
    obtain ⟨hok, _⟩ := pre_ok h2
    exact (okM_ok hok).2.2.2.2)
  have HBL := hid (backF_len M (colsM M) z)
  obtain ⟨B, hB⟩ : ∃ B, B = denyB M y z := ⟨_, rfl⟩
  rw [← hB] at HN1 HN2 HN3 HRS ⊢
  obtain ⟨Bk, hBk⟩ : ∃ B, B = backF M (colsM M) z := ⟨_, rfl⟩
  rw [← hBk] at HN3 HRS HBL HBK
  obtain ⟨W, hW⟩ : ∃ W, W = colsM M := ⟨_, rfl⟩
  rw [← hW] at HBK HBL HW10
  obtain ⟨RB, hRB⟩ : ∃ B, B = decide (rdE M y = 0) := ⟨_, rfl⟩
  rw [← hRB] at HRD
  have HRB := hid hRB.symm
  clear hn hn2 hn3 H H2 H3 hB hBk hW hRB hdp
  go_enter Try.func56, Try.ntmps56
  go_wp2_with (go_at_call 95; refine HBK.out.mono ?_; rintro e w1 ⟨hb1, ⟨hp, rfl⟩ | ⟨hp, v1, base1, rfl, ho1⟩⟩; all_goals refine Stop.of ?_)
  · refine Stop.go ?_
    obtain rfl : B = false := HN2.out hp
    go_wp2
    go_ret
    exact ⟨rfl, hb1⟩
  · refine Stop.go ?_
    obtain ⟨ba, bc, rfl, hbi, hbm⟩ := ints_of_own ho1 HBL.out
    have HB1 := hid hb1
    have HBI := hid hbi
    have HP := hid hp
    have HR1 := hid (HRD.out _ hb1)
    clear hb1 ho1 hbi hp HRD HBK HN2
    go_wp2_with (go_at_call 48; refine HR1.out.mono ?_; rintro e w2 ⟨rfl, hb2⟩; refine Stop.of ?_)
    refine Stop.go ?_
    have HB2 := hid (chain HB1.out hb2)
    have HBI2 := hid (HBI.out.below hb2)
    clear hb2 HBI HR1 HB1
    cases RB
    · obtain rfl : B = false := HN1.out (of_decide_eq_false HRB.out)
      go_wp2
      go_ret
      exact ⟨rfl, HB2.out⟩
    · have hr0 := of_decide_eq_true HRB.out
      have HCF := hid (containsI w2 ba W bc Bk HBL.out hbm HBI2.out 114 #[] (fun n => decide (n ≠ 0)) (enters_of Try.func114 (by kernel_rfl) rfl) (deny1 w2))
      rw [any_nil] at HCF
      have HDT2 := hid (HDT.out hr0 HP.out)
      have HRS2 := hid (HRS.out hr0 HP.out)
      obtain ⟨nb, hnb⟩ : ∃ nb, nb = !nilB Bk := ⟨_, rfl⟩
      rw [← hnb] at HCF
      have HNB := hid hnb
      clear hr0 hnb HDT HRS HN1 HRB
      go_wp2_with (go_at_call 71; refine HCF.out.mono ?_; rintro e w3 ⟨rfl, hb3⟩; refine Stop.of ?_)
      refine Stop.go ?_
      have HB3 := hid (chain HB2.out hb3)
      clear hb3
      cases nb
      · have hnt : nilB Bk = true := by have := HNB.out; simpa using this.symm
        have HD3 := hid (HDT2.out w3 HB3.out)
        have HRS3 := hid (HRS2.out hnt)
        obtain ⟨d, hd⟩ : ∃ d, d = dotV z y := ⟨_, rfl⟩
        rw [← hd] at HD3 HRS3
        clear hnt hd HDT2 HRS2 HNB
        go_wp2_with (go_at_call 111; refine HD3.out.mono ?_; rintro e w4 ⟨rfl, k4, rfl⟩; refine Stop.of ?_)
        refine Stop.go ?_
        go_wp2
        go_ret
        exact ⟨ret_bool (by rw [HRS3.out, ne_b]), below_drewN HB3.out k4⟩
      · obtain rfl : B = false := HN3.out (by have := HNB.out; simpa using this.symm)
        go_wp2
        go_ret
        exact ⟨rfl, HB3.out⟩

theorem r3Reading_c (w : World) (a a2 : Option Addr) (n cap n2 cap2 : Nat) (M : Mask) (y : List Int) (hn : M.length = n) (hn2 : y.length = n2) (hm : n ≤ maxLen) (hm2 : n2 ≤ maxLen) (H : RowsAt w a M) (H2 : IntsAt w a2 y) :
    Calls Try.prog 49 #[.slice a n cap, .slice a2 n2 cap2] w fun e w' => e = .returned (.bool (decide (rdE M y = 0))) ∧ w = w' := by
  have HC := hid (r3Read_c w a a2 n cap n2 cap2 M y hn hn2 hm hm2 H H2)
  obtain ⟨E, hE⟩ : ∃ E, E = rdE M y := ⟨_, rfl⟩
  rw [← hE] at HC ⊢
  clear hE hn hn2 H H2
  go_enter Try.func49, Try.ntmps49
  go_wp2_with (go_at_call 99; refine HC.out.mono ?_; rintro e w1 ⟨rfl, rfl⟩; refine Stop.of ?_)
  refine Stop.go ?_
  go_wp2
  go_ret
  exact ⟨ret_bool (by rw [Bool.eq_iff_iff]; simp), rfl⟩

set_option maxHeartbeats 1000000 in
theorem r3Denies_c (w : World) (a a2 a3 : Option Addr) (n cap n2 cap2 n3 cap3 : Nat) (M : Mask) (y z : List Int) (hn : M.length = n) (hn2 : y.length = n2) (hn3 : z.length = n3) (hm : n ≤ maxLen) (hm2 : n2 ≤ maxLen) (hm3 : n3 ≤ maxLen) (H : RowsAt w a M) (H2 : IntsAt w a2 y) (H3 : IntsAt w a3 z) :
    Calls Try.prog 57 #[.slice a n cap, .slice a2 n2 cap2, .slice a3 n3 cap3] w fun e w' => e = .returned (.bool (denyB M y z)) ∧ Below w.heap.size w w' := by
  have HRD := hid (r3Reading_c w a a2 n cap n2 cap2 M y hn hn2 hm hm2 H H2)
  have HML := hid (million_c w a3 n3 cap3 z hn3 hm3 H3)
  have HN1 := hid (dn_no1 (M := M) (y := y) (z := z))
  have HN2 := hid (dn_no2 (M := M) (y := y) (z := z))
  have HN3 := hid (dn_no3 (M := M) (y := y) (z := z))
  have HRS := hid (dn_rest (M := M) (y := y) (z := z))
  obtain ⟨B, hB⟩ : ∃ B, B = denyB M y z := ⟨_, rfl⟩
  rw [← hB] at HN1 HN2 HN3 HRS ⊢
  by_cases h0 : rdE M y = 0
  rotate_left
  · rw [decide_eq_false h0] at HRD
    obtain rfl : B = false := HN1.out h0
    clear hn hn2 hn3 H H2 H3 hB h0 HN2 HN3 HRS HML
    go_enter Try.func57, Try.ntmps57
    go_wp2_with (go_at_call 49; refine HRD.out.mono ?_; rintro e w1 ⟨rfl, rfl⟩)
    go_ret
    exact ⟨rfl, Below.refl _ _⟩
  rw [decide_eq_true h0] at HRD
  obtain ⟨hok, hyl, hmil⟩ := rd_ok h0
  have hpb : preB M z = (decide (n3 = n) && milB z) := by unfold preB; rw [hok, hn, hn3]; rfl
  by_cases hl : n3 = n
  rotate_left
  · obtain rfl : B = false := HN2.out (by rw [hpb, decide_eq_false hl]; rfl)
    have hlb : ((n3 : Int) != (n : Int)) = true := by simp; omega
    clear hn hn2 hn3 H H2 H3 hB h0 HN1 HN2 HN3 HRS HML hok hyl hmil hpb hl
    go_enter Try.func57, Try.ntmps57
    go_wp2_with (go_at_call 49; refine HRD.out.mono ?_; rintro e w1 ⟨rfl, rfl⟩)
    go_ret
    exact ⟨rfl, Below.refl _ _⟩
  subst hl
  have hlb : ((n3 : Int) != (n3 : Int)) = false := by simp
  rw [decide_eq_true rfl, Bool.true_and] at hpb
  cases hz : milB z
  · rw [hz] at HML hpb
    obtain rfl : B = false := HN2.out hpb
    clear hn hn2 hn3 H H2 H3 hB h0 HN1 HN2 HN3 HRS hok hyl hmil hpb hz
    go_enter Try.func57, Try.ntmps57
    go_wp2_with (go_at_call 49; refine HRD.out.mono ?_; rintro e w1 ⟨rfl, rfl⟩; refine Stop.of ?_)
    refine Stop.go ?_
    go_wp2_with (go_at_call 74; refine HML.out.mono ?_; rintro e w1 ⟨rfl, rfl⟩)
    go_ret
    exact ⟨rfl, Below.refl _ _⟩
  · rw [hz] at HML hpb
    obtain ⟨_, _, h6, _, h10⟩ := okM_ok hok
    have HB := hid (r2Back_c w a a3 n3 cap cap3 M z hn hn3 H H3 hok hz)
    have HNT := hid (fun (X : World) (ba : Option Addr) (bc : Nat) (hI : IntsAt X ba (backF M (colsM M) z)) => nothing_c X ba (colsM M) bc (backF M (colsM M) z) (backF_len M _ z) (by unfold maxLen; omega) hI)
    have HDT := hid (fun (X : World) (hX : Below w.heap.size w X) => r2dot_c X a3 a2 n3 cap3 n2 cap2 z y hn3 hn2 (by omega) (by omega) (H3.below hX) (H2.below hX) (mil_bnd hz) (mil_bnd hmil))
    have HRS2 := hid (HRS.out h0 hpb)
    have HBL := hid (backF_len M (colsM M) z)
    obtain ⟨Bk, hBk⟩ : ∃ B, B = backF M (colsM M) z := ⟨_, rfl⟩
    rw [← hBk] at HN3 HRS2 HB HNT HBL
    obtain ⟨W, hW⟩ : ∃ W, W = colsM M := ⟨_, rfl⟩
    rw [← hW] at HB HNT HBL
    obtain ⟨nb, hnb⟩ : ∃ nb, nb = nilB Bk := ⟨_, rfl⟩
    rw [← hnb] at HNT HN3 HRS2
    obtain ⟨d, hd⟩ : ∃ d, d = dotV z y := ⟨_, rfl⟩
    rw [← hd] at HDT HRS2
    clear hn hn2 hn3 H H2 H3 hB h0 HN1 HN2 HRS hok hyl hmil hpb hz h6 h10 hBk hW hnb hd
    go_enter Try.func57, Try.ntmps57
    go_wp2_with (go_at_call 49; refine HRD.out.mono ?_; rintro e w1 ⟨rfl, rfl⟩; refine Stop.of ?_)
    refine Stop.go ?_
    go_wp2_with (go_at_call 74; refine HML.out.mono ?_; rintro e w1 ⟨rfl, rfl⟩; refine Stop.of ?_)
    refine Stop.go ?_
    go_wp2_with (go_at_call 46; refine HB.out.mono ?_; rintro e w2 ⟨v2, rfl, ho2, hb2⟩; refine Stop.of ?_)
    refine Stop.go ?_
    obtain ⟨ba, bc, rfl, hbi, _⟩ := ints_of_own ho2 HBL.out
    have HB2 := hid hb2
    have HNT2 := hid (HNT.out _ ba bc hbi)
    clear ho2 hbi hb2 HB HNT
    go_wp2_with (go_at_call 75; refine HNT2.out.mono ?_; rintro e w3 ⟨rfl, rfl⟩; refine Stop.of ?_)
    refine Stop.go ?_
    cases nb
    · obtain rfl : B = false := HN3.out rfl
      go_wp2
      go_ret
      exact ⟨rfl, HB2.out⟩
    · have HD2 := hid (HDT.out _ HB2.out)
      have HRS3 := hid (HRS2.out rfl)
      clear HDT HRS2
      go_wp2_with (go_at_call 47; refine HD2.out.mono ?_; rintro e w4 ⟨rfl, k4, rfl⟩; refine Stop.of ?_)
      refine Stop.go ?_
      go_wp2
      go_ret
      exact ⟨ret_bool (by rw [HRS3.out, ne_b]), below_drewN HB2.out k4⟩

/-- whether a reading is possible, and the error -/
def possV (M : Mask) (y : List Int) : Bool × Int := if rdE M y = 0 then ((conflictF M y).isNone, 0) else (false, rdE M y)

set_option maxHeartbeats 1000000 in
theorem lpossible_c (w : World) (a a2 : Option Addr) (n cap n2 cap2 : Nat) (M : Mask) (y : List Int) (hn : M.length = n) (hn2 : y.length = n2) (hm : n ≤ maxLen) (hm2 : n2 ≤ maxLen) (H : RowsAt w a M) (H2 : IntsAt w a2 y) :
    Calls Try.prog 58 #[.slice a n cap, .slice a2 n2 cap2] w fun e w' => e = .returned (.tuple #[.bool (possV M y).1, .int .i64 (possV M y).2]) ∧ Below w.heap.size w w' := by
  have HC := hid (check_c w a a2 none n cap n2 cap2 0 0 M y [] hn hn2 rfl hm hm2 (by decide) H H2 (fun j hj => by simp at hj))
  rw [← rd_check] at HC
  by_cases h0 : rdE M y = 0
  · obtain ⟨hok, hyl, hmil⟩ := rd_ok h0
    have hpv : possV M y = ((conflictF M y).isNone, 0) := by unfold possV; rw [if_pos h0]
    rw [hpv]
    rw [h0] at HC
    obtain rfl : n = n2 := by omega
    have HCF := hid (fun (X : World) (hX : Below w.heap.size w X) => conflict_c X a a2 n cap cap2 M y hn hn2 (H.below hX) (H2.below hX) hok hmil)
    have heq := fun (w : World) (a : Option Addr) (n c : Nat) => Lib.run_eql_slice_nil (P := Try.prog) w 31 3 a n c 0 0 Try.underlying31
    obtain ⟨B, hB⟩ : ∃ B, B = (conflictF M y).isNone := ⟨_, rfl⟩
    rw [← hB]
    have HBB := hid hB
    simp only []
    clear hn hn2 H H2 hok hyl hmil hpv h0 hB
    go_enter Try.func58, Try.ntmps58
    go_wp2_with (go_at_call 90; refine HC.out.mono ?_; rintro e w1 ⟨rfl, hb1⟩; refine Stop.of ?_)
    refine Stop.go ?_
    have HB1 := hid hb1
    clear hb1
    go_wp2_with (go_at_call 110; refine (HCF.out _ HB1.out).mono ?_; rintro e w3 ⟨hb3, hpost⟩; rcases hpost with ⟨hcn, rfl⟩ | ⟨u, ua, uc, hcs, rfl, hui⟩; all_goals refine Stop.of ?_)
    · refine Stop.go ?_
      obtain rfl : B = true := by rw [HBB.out, hcn]; rfl
      go_wp2
      go_ret2
      exact ⟨rfl, chain HB1.out hb3⟩
    · refine Stop.go ?_
      obtain rfl : B = false := by rw [HBB.out, hcs]; rfl
      go_wp2
      go_ret2
      exact ⟨rfl, chain HB1.out hb3⟩
  · have hpv : possV M y = (false, rdE M y) := by unfold possV; rw [if_neg h0]
    rw [hpv]
    obtain ⟨E, hE⟩ : ∃ E, E = rdE M y := ⟨_, rfl⟩
    rw [← hE] at HC h0 ⊢
    have hpb : (E != 0) = true := by simpa using h0
    clear hn hn2 H H2 hE hpv
    go_enter Try.func58, Try.ntmps58
    go_wp2_with (go_at_call 90; refine HC.out.mono ?_; rintro e w1 ⟨rfl, hb1⟩)
    go_ret2
    exact ⟨rfl, hb1⟩
end

section
set_option linter.unusedVariables false

/-- a common multiple of the fractions' lower parts -/
def denP (x : List Rt) : Nat → Int
  | 0 => 1
  | k + 1 => denP x k * (ratAt x k).2
theorem denP_ne {x : List Rt} (h : ∀ k, (ratAt x k).2 ≠ 0) : ∀ k, denP x k ≠ 0
  | 0 => by show (1 : Int) ≠ 0; decide
  | k + 1 => Int.mul_ne_zero (denP_ne h k) (h k)
theorem denP_dvd (x : List Rt) : ∀ (k i : Nat), i < k → (ratAt x i).2 ∣ denP x k
  | 0, i, h => by omega
  | k + 1, i, h => by
    by_cases e : i = k
    · subst e; exact ⟨denP x i, Int.mul_comm _ _⟩
    · obtain ⟨c, hc⟩ := denP_dvd x k i (by omega)
      exact ⟨c * (ratAt x k).2, by rw [denP, hc]; grind⟩
/-- the upper parts over the common multiple -/
def numP (x : List Rt) (W i : Nat) : Int := (ratAt x i).1 * (denP x W / (ratAt x i).2)
theorem numP_eq {x : List Rt} {W i : Nat} (hi : i < W) : numP x W i * (ratAt x i).2 = (ratAt x i).1 * denP x W := by
  have h2 := Int.ediv_mul_cancel (denP_dvd x W i hi)
  unfold numP
  rw [Int.mul_assoc, h2]

theorem sumR_val {r : List Int} {x : List Rt} {W : Nat} : ∀ k, k ≤ W → (sumR r x k).1 * denP x W = (sumR r x k).2 * sm (fun j => vec r j * numP x W j) k
  | 0, _ => by simp [sumR, sm]
  | k + 1, h => by
    have ih := sumR_val (r := r) (x := x) (W := W) k (by omega)
    have hn := numP_eq (x := x) (W := W) (i := k) (by omega)
    have hs : sm (fun j => vec r j * numP x W j) (k + 1) = sm (fun j => vec r j * numP x W j) k + vec r k * numP x W k := rfl
    rw [hs, sumR]
    by_cases h0 : vec r k ≠ 0
    · rw [if_pos h0]
      simp only []
      generalize sumR r x k = s at ih
      generalize sm (fun j => vec r j * numP x W j) k = S at ih
      generalize numP x W k = c at hn
      generalize denP x W = P at ih hn
      generalize ratAt x k = q at hn
      generalize vec r k = m
      grind
    · rw [if_neg h0]
      have h1 : vec r k = 0 := by omega
      rw [h1, ih]; simp

/-- a picture that makes a reading -/
theorem makes_eq {M : Mask} {x : List Rt} {y : List Int} (h : makesB M x y = true) : ∃ P : Int, P ≠ 0 ∧ ∃ c : Nat → Int, ∀ i, i < M.length → P * vec y i = sm (fun j => rowv M i j * c j) (colsM M) := by
  unfold makesB at h
  simp only [Bool.and_eq_true, decide_eq_true_eq] at h
  obtain ⟨h1, h2, h3, h4⟩ := h
  obtain ⟨hok, hyl, hmil⟩ := rd_ok h1
  obtain ⟨hM, m1, m6, hc1, hc10⟩ := okM_ok hok
  have hxv : ∀ k, 1 ≤ (ratAt x k).2 ∧ (ratAt x k).2 ≤ 400 ∧ -10000000000 ≤ (ratAt x k).1 ∧ (ratAt x k).1 ≤ 10000000000 := fun k => by
    unfold ratAt
    cases e : x[k]? with
    | none => decide
    | some r =>
      have := List.all_eq_true.1 h3 r (List.mem_of_getElem? e)
      rw [validR_iff] at this
      exact ⟨this.1, this.2.1, this.2.2.1, this.2.2.2.1⟩
  refine ⟨denP x (colsM M), denP_ne (fun k => by have := hxv k; omega) _, numP x (colsM M), fun i hi => ?_⟩
  have e1 := sumR_val (r := M[i]?.getD []) (x := x) (W := colsM M) _ (Nat.le_refl _)
  have e2 := h4 i hi
  have hrow : ∀ k, -1 ≤ vec (M[i]?.getD []) k ∧ vec (M[i]?.getD []) k ≤ 1 := fun k => by
    rw [List.getElem?_eq_getElem hi]; exact hM.one _ (List.getElem_mem hi) k
  have e3 := (sumR_bnd hrow hxv (colsM M)).2.1
  rw [e2] at e1
  have e4 : (sumR (M[i]?.getD []) x (colsM M)).2 * (denP x (colsM M) * vec y i) = (sumR (M[i]?.getD []) x (colsM M)).2 * sm (fun j => vec (M[i]?.getD []) j * numP x (colsM M) j) (colsM M) := by
    rw [← e1]
    generalize (sumR (M[i]?.getD []) x (colsM M)).2 = s
    generalize denP x (colsM M) = P
    generalize vec y i = v
    grind
  exact Int.eq_of_mul_eq_mul_left (by omega) e4

/-- what is denied -/
theorem deny_eq {M : Mask} {y z : List Int} (h : denyB M y z = true) : rdE M y = 0 ∧ z.length = M.length ∧ (∀ j, j < colsM M → sm (fun i => rowv M i j * vec z i) M.length = 0) ∧ sm (fun i => vec z i * vec y i) M.length ≠ 0 := by
  unfold denyB at h
  simp only [Bool.and_eq_true, decide_eq_true_eq] at h
  obtain ⟨h1, h2, h3, h4⟩ := h
  obtain ⟨hok, hzl, hzm⟩ := pre_ok h2
  refine ⟨h1, hzl, fun j hj => ?_, ?_⟩
  · have hb : vec (backF M (colsM M) z) j = 0 := by
      unfold nilB at h3
      have hl := backF_len M (colsM M) z
      have := List.all_eq_true.1 h3 _ (List.getElem_mem (show j < (backF M (colsM M) z).length by omega))
      rw [vec_lt (by omega)]
      simpa using this
    rw [← hb]
    unfold backF
    rw [vec_map_list _ _ (by simpa using hj)]
    simp only [List.getElem_range]
    unfold dotV
    rw [colV_len]
    refine sm_congr fun i hi => ?_
    congr 1
    unfold colV rowv
    rw [vec_map_list _ _ hi, List.getElem?_eq_getElem hi]
    rfl
  · unfold dotV at h4
    rw [hzl] at h4
    exact h4

theorem deny_makes {M : Mask} {y z : List Int} {x : List Rt} (h : denyB M y z = true) : makesB M x y = false := by
  cases hm : makesB M x y with
  | false => rfl
  | true =>
    exfalso
    obtain ⟨h1, hzl, h2, h3⟩ := deny_eq h
    obtain ⟨P, hP, c, hc⟩ := makes_eq hm
    have e1 : P * sm (fun i => vec z i * vec y i) M.length = sm (fun i => vec z i * sm (fun j => rowv M i j * c j) (colsM M)) M.length := by
      rw [← sm_mul]
      refine sm_congr fun i hi => ?_
      rw [← hc i hi]
      grind
    rw [sm_swap (fun i j => rowv M i j) c (vec z) (colsM M) M.length] at e1
    have e2 : sm (fun j => sm (fun i => rowv M i j * vec z i) M.length * c j) (colsM M) = 0 := by
      rw [← sm_zero (colsM M)]
      exact sm_congr fun j hj => by rw [h2 j hj]; simp
    rw [e2] at e1
    exact Int.mul_ne_zero hP h3 e1

/-- a vector of the rows with a reading that is 0 at all pixels and not behind them -/
theorem conf_of_vec {M : List (List Int)} {n : Nat} (h : MaskOk M n) {y : List Int} (hy : y.length = M.length) {v : Vec} (hv : Sp (RB M.length (rowv (withY M y))) v) (h0 : ∀ c, c < n → v c = 0) (hn : v n ≠ 0) : confF M n y := by
  rw [h.conf_iff hy]
  have hw : ∀ r ∈ withY M y, r.length = n + 1 := fun r hr => by
    obtain ⟨r', h1, v, _, rfl⟩ := withY_mem hr
    simp [h.wid r' h1]
  obtain ⟨k, hk⟩ := rRed_inv (withY M y) hw (n + 1)
  rw [withY_len hy] at k
  have h3 : Sp (RB (rRed (withY M y) (n + 1)).piv.length (rowv ((rRed (withY M y) (n + 1)).done ++ (rRed (withY M y) (n + 1)).left))) v := by
    have := k.span (v := v) (fun q h1 h2 c => by
      rcases Nat.lt_or_ge c (n + 1) with hc | hc
      · exact k.zero q h1 h2 c hc
      · exact rowv_wid k.wid q hc)
    rw [this]
    have := primF_span (withY M y) v
    rw [withY_len hy] at this
    exact this.2 hv
  obtain ⟨i, hi, e⟩ := (k.ech.pivot_iff n).2 ⟨v, h3, hn, h0⟩
  have := jf_mem hi
  rwa [e] at this

theorem deny_conf {M : Mask} {y z : List Int} (h : denyB M y z = true) : possV M y = (false, 0) := by
  obtain ⟨h1, hzl, h2, h3⟩ := deny_eq h
  obtain ⟨hok, hyl, hmil⟩ := rd_ok h1
  obtain ⟨hM, _⟩ := okM_ok hok
  have hrow : ∀ i, i < M.length → ∀ c, rowv (withY M y) i c = if c < colsM M then rowv M i c else if c = colsM M then vec y i else 0 := fun i hi c => withY_row hM hyl hi c
  have key : ∀ k, k ≤ M.length → Sp (RB M.length (rowv (withY M y))) (fun c => sm (fun i => vec z i * rowv (withY M y) i c) k) := by
    intro k
    induction k with
    | zero => intro _; exact .zero
    | succ k ih =>
      intro hk
      have := Sp.lin 1 (vec z k) (ih (by omega)) (RB.sp (show k < M.length by omega))
      have e : (fun c => 1 * sm (fun i => vec z i * rowv (withY M y) i c) k + vec z k * rowv (withY M y) k c) = fun c => sm (fun i => vec z i * rowv (withY M y) i c) (k + 1) := by
        funext c
        rw [Int.one_mul]; rfl
      rwa [e] at this
  have hc : confF M (colsM M) y := by
    refine conf_of_vec hM hyl (key _ (Nat.le_refl _)) (fun c hc => ?_) ?_
    · rw [← h2 c hc]
      exact sm_congr fun i hi => by rw [hrow i hi, if_pos hc, Int.mul_comm]
    · intro he
      refine h3 ?_
      rw [← he]
      exact sm_congr fun i hi => by rw [hrow i hi, if_neg (by omega), if_pos rfl]
  unfold possV
  rw [if_pos h1]
  cases e : conflictF M y with
  | none => exact absurd hc ((conf_none_iff hok).1 e)
  | some u => rfl
end
end Go.Proofs.Ytfipebkhomppmaa
