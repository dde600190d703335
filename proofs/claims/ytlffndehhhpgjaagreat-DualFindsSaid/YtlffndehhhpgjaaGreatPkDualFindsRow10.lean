/- Walks and plain laws for DualFindsRow, part 10. -/
import Derived.Test.YtlffndehhhpgjaaGreatPkDualFindsRow9
namespace Go.Proofs.YtlffndehhhpgjaaGreat
set_option linter.unusedVariables false
set_option linter.unusedSimpArgs false
set_option maxRecDepth 100000
set_option maxHeartbeats 4000000
section
section
open Go.RowKit Go.Lib
def zAE (x : List Rt) (k : Nat) : Rt := x[k]?.getD (0, 1)
def sumR (r : List Int) (x : List Rt) : Nat -> Int × Int
 | 0 => (0, 1)
 | k + 1 => if vec r k ≠ 0 then ((sumR r x k).1 * (zAE x k).2 + (sumR r x k).2 * ((zAE x k).1 * vec r k), (sumR r x k).2 * (zAE x k).2) else sumR r x k
theorem zOI {r : List Int} {x : List Rt} (h1 : ∀ k, -1 <= vec r k ∧ vec r k <= 1) (hx : ∀ k, 1 <= (zAE x k).2 ∧ (zAE x k).2 <= 400 ∧ -10000000000 <= (zAE x k).1 ∧ (zAE x k).1 <= 10000000000) :
 ∀ k : Nat, (sumR r x k).1.natAbs <= k * 10000000000 * 400 ^ k ∧ 1 <= (sumR r x k).2 ∧ (sumR r x k).2.natAbs <= 400 ^ k
 | 0 => by simp [sumR]
 | k + 1 => by
   obtain ⟨i1, i2, i3⟩ := zOI h1 hx k
   obtain ⟨x1, x2, x3, x4⟩ := hx k
   have hv := h1 k
   have hp : 400 ^ (k + 1) = 400 ^ k * 400 := Nat.pow_succ ..
   have hmono : 400 ^ k <= 400 ^ (k + 1) := by rw [hp]; omega
   rw [sumR]
   by_cases h0 : vec r k ≠ 0
   ·rw [if_pos h0]
    simp only []
    generalize sumR r x k = s at i1 i2 i3
    generalize zAE x k = q at x1 x2 x3 x4
    obtain ⟨s1, s2⟩ := s
    obtain ⟨q1, q2⟩ := q
    simp only [] at *
    have e1 : (s1 * q2).natAbs <= k * 10000000000 * 400 ^ k * 400 := by
     rw [Int.natAbs_mul]; exact Nat.mul_le_mul i1 (by omega)
    have e2 : (s2 * (q1 * vec r k)).natAbs <= 400 ^ k * 10000000000 := by
     rw [Int.natAbs_mul]
     refine Nat.mul_le_mul i3 ?_
     rw [Int.natAbs_mul]
     have : q1.natAbs * (vec r k).natAbs <= 10000000000 * 1 := Nat.mul_le_mul (by omega) (by omega)
     omega
    have e3 : (s2 * q2).natAbs <= 400 ^ k * 400 := by
     rw [Int.natAbs_mul]; exact Nat.mul_le_mul i3 (by omega)
    refine ⟨?_, ?_, by rw [hp]; exact e3⟩
    ·have e4 : (k + 1) * 10000000000 * 400 ^ (k + 1) = k * 10000000000 * 400 ^ k * 400 + 400 ^ k * 10000000000 * 400 := by
      rw [hp]
      generalize 400 ^ k = P
      grind
     rw [e4]
     have e5 : 400 ^ k * 10000000000 <= 400 ^ k * 10000000000 * 400 := by omega
     omega
    ·have := Int.mul_pos (show (0 : Int) < s2 by omega) (show (0 : Int) < q2 by omega)
     omega
   ·rw [if_neg h0]
    refine ⟨?_, i2, Nat.le_trans i3 hmono⟩
    refine Nat.le_trans i1 ?_
    exact Nat.mul_le_mul (by omega) hmono
theorem zND {r : List Int} {x : List Rt} (h1 : ∀ k, -1 <= vec r k ∧ vec r k <= 1) (hx : ∀ k, 1 <= (zAE x k).2 ∧ (zAE x k).2 <= 400 ∧ -10000000000 <= (zAE x k).1 ∧ (zAE x k).1 <= 10000000000) {k : Nat} (hk : k <= 10) :
 (sumR r x k).1.natAbs <= 10485760000000000000000000000000000000 ∧ 1 <= (sumR r x k).2 ∧ (sumR r x k).2.natAbs <= 104857600000000000000000000 := by
 obtain ⟨i1, i2, i3⟩ := zOI h1 hx k
 have hp : 400 ^ k <= 400 ^ 10 := Nat.pow_le_pow_right (by decide) hk
 have e10 : (400 : Nat) ^ 10 = 104857600000000000000000000 := by decide +kernel
 rw [e10] at hp
 refine ⟨?_, i2, by omega⟩
 refine Nat.le_trans i1 ?_
 have : k * 10000000000 * 400 ^ k <= 10 * 10000000000 * 104857600000000000000000000 := Nat.mul_le_mul (by omega) hp
 omega
theorem sumR_bnd9 {r : List Int} {x : List Rt} (h1 : ∀ k, -1 <= vec r k ∧ vec r k <= 1) (hx : ∀ k, 1 <= (zAE x k).2 ∧ (zAE x k).2 <= 400 ∧ -10000000000 <= (zAE x k).1 ∧ (zAE x k).1 <= 10000000000) {k : Nat} (hk : k <= 9) :
 (sumR r x k).1.natAbs * 400 <= 10485760000000000000000000000000000000 ∧ (sumR r x k).2.natAbs * 400 <= 104857600000000000000000000 := by
 obtain ⟨i1, i2, i3⟩ := zOI h1 hx k
 have hp : 400 ^ k <= 400 ^ 9 := Nat.pow_le_pow_right (by decide) hk
 have e9 : (400 : Nat) ^ 9 = 262144000000000000000000 := by decide +kernel
 rw [e9] at hp
 refine ⟨?_, by omega⟩
 have : k * 10000000000 * 400 ^ k <= 9 * 10000000000 * 262144000000000000000000 := Nat.mul_le_mul (by omega) hp
 omega
def zDK (M : Mask) (x : List Rt) (y : List Int) : Bool :=
 decide (rdE M y = 0) && (decide (x.length = zAB M) && (x.all zAM && decide (∀ i, i < M.length -> (sumR (M[i]?.getD []) x (zAB M)).1 = (sumR (M[i]?.getD []) x (zAB M)).2 * vec y i)))
theorem mk_no1 {M : Mask} {x : List Rt} {y : List Int} (h : rdE M y ≠ 0) : zDK M x y = false := by unfold zDK; rw [decide_eq_false h]; rfl
theorem mk_no2 {M : Mask} {x : List Rt} {y : List Int} (h : x.length ≠ zAB M) : zDK M x y = false := by unfold zDK; rw [decide_eq_false h]; simp
theorem mk_no3 {M : Mask} {x : List Rt} {y : List Int} (h : x.all zAM = false) : zDK M x y = false := by unfold zDK; rw [h]; simp
theorem mk_no4 {M : Mask} {x : List Rt} {y : List Int} {i : Nat} (hi : i < M.length) (h : (sumR (M[i]?.getD []) x (zAB M)).1 ≠ (sumR (M[i]?.getD []) x (zAB M)).2 * vec y i) : zDK M x y = false := by
 have : decide (∀ i, i < M.length -> (sumR (M[i]?.getD []) x (zAB M)).1 = (sumR (M[i]?.getD []) x (zAB M)).2 * vec y i) = false := decide_eq_false fun hh => h (hh i hi)
 unfold zDK; rw [this]; simp
theorem mk_yes {M : Mask} {x : List Rt} {y : List Int} (h1 : rdE M y = 0) (h2 : x.length = zAB M) (h3 : x.all zAM = true) (h4 : ∀ i, i < M.length -> (sumR (M[i]?.getD []) x (zAB M)).1 = (sumR (M[i]?.getD []) x (zAB M)).2 * vec y i) : zDK M x y = true := by
 unfold zDK; rw [decide_eq_true h1, decide_eq_true h2, h3, decide_eq_true h4]; rfl
def SumB (w : World) (g : Nat) (n d : Int) : Prop := w.heap[g]? = some (.cells #[.int .i64 (n / 18446744073709551616), .int .u64 (n % 18446744073709551616), .int .i64 (d / 18446744073709551616), .int .u64 (d % 18446744073709551616)] 102 (0, 0))
theorem SumB.lt {w : World} {g : Nat} {n d : Int} (h : SumB w g n d) : g < w.heap.size := (Array.getElem?_eq_some_iff.1 h).1
theorem SumB.keep {w w' : World} {g : Nat} {n d : Int} (h : SumB w g n d) (hk : w'.heap[g]? = w.heap[g]?) : SumB w' g n d := hk.trans h
theorem SumB.cells {w : World} {g : Nat} {n d n1 n2 d1 d2 : Int} (h : SumB w g n d) (pn : WP n n1 n2) (pd : WP d d1 d2) : w.cell? ⟨g, 0, none⟩ = some (.int .i64 n1) ∧ w.cell? ⟨g, 1, none⟩ = some (.int .u64 n2) ∧ w.cell? ⟨g, 2, none⟩ = some (.int .i64 d1) ∧ w.cell? ⟨g, 3, none⟩ = some (.int .u64 d2) ∧ ∀ o, w.frozen? ⟨g, o, none⟩ = false := by
 unfold SumB at h
 rw [pn.1, pn.2, pd.1, pd.2]
 exact ⟨by simp [World.cell?, h], by simp [World.cell?, h], by simp [World.cell?, h], by simp [World.cell?, h], fun o => by simp [World.frozen?, h]⟩
theorem SumB.set {w : World} {g : Nat} {n d m e a b c f : Int} (h : SumB w g n d) (pm : WP m a b) (pe : WP e c f) : SumB ((((w.setCell ⟨g, 0, none⟩ (.int .i64 a)).setCell ⟨g, 1, none⟩ (.int .u64 b)).setCell ⟨g, 2, none⟩ (.int .i64 c)).setCell ⟨g, 3, none⟩ (.int .u64 f)) g m e := by
 unfold SumB
 rw [zAR (zAR (zAR (zAR h 0 _) 1 _) 2 _) 3 _, pm.1, pm.2, pe.1, pe.2]
 simp
theorem SumB.made (w : World) {n d a b c f : Int} (pn : WP n a b) (pd : WP d c f) : SumB (w.alloc (.cells #[.int .i64 a, .int .u64 b, .int .i64 c, .int .u64 f] 102)) w.heap.size n d := by
 unfold SumB
 rw [World.alloc_heap_new, pn.1, pn.2, pd.1, pd.2]
theorem lmakes_c (w : World) (a a2 a3 : Option Addr) (n cap n2 cap2 n3 cap3 : Nat) (M : Mask) (x : List Rt) (y : List Int) (hn : M.length = n) (hn2 : x.length = n2) (hn3 : y.length = n3) (hm : n <= maxLen) (hm2 : n2 <= maxLen) (hm3 : n3 <= maxLen) (H : zAK w a M) (H2 : zCJ w a2 x) (H3 : zAH w a3 y) :
 Calls Tryz.prog 84 #[.slice a n cap, .slice a2 n2 cap2, .slice a3 n3 cap3] w fun e w' => e = .returned (.bool (zDK M x y)) ∧ Below w.heap.size w w' := by
 have HRD := hid (lreading_c w a a3 n cap n3 cap3 M y hn hn3 hm hm3 H H3)
 have HN1 := hid (mk_no1 (M := M) (x := x) (y := y))
 have HN2 := hid (mk_no2 (M := M) (x := x) (y := y))
 have HN3 := hid (mk_no3 (M := M) (x := x) (y := y))
 obtain ⟨B, hB⟩ := exq (zDK M x y)
 rw [<- hB] at HN1 HN2 HN3 ⊢
 by_cases h0 : rdE M y = 0
 rotate_left
 ·rw [decide_eq_false h0] at HRD
  obtain rfl : B = false := HN1.out h0
  clear hn hn2 hn3 H H2 H3 hB h0 HN2 HN3
  go_enter Tryz.func84, Tryz.ntmps84
  go_wp2_with (go_at_call 153; refine HRD.out.mono ?_; rintro e w1 ⟨rfl, hb1⟩)
  go_ret
  exact ⟨rfl, hb1⟩
 rw [decide_eq_true h0] at HRD
 obtain ⟨hok, hyl, hmil⟩ := zJT h0
 obtain ⟨hM, h1, h6, hc1, hc10⟩ := zCP hok
 obtain ⟨b, off, ra, rc, rfl, hb, hc⟩ := zCX H (by omega)
 have HCC := hid (fun (X : World) (hX : Below w.heap.size w X) => show X.cell? ⟨b, off, none⟩ = some (.slice ra (zAB M) rc) from (hX.cell (p := ⟨b, off, none⟩) hb).trans hc)
 have HN4 := hid (fun i (hi : i < M.length) h => mk_no4 (x := x) (y := y) hi h)
 have HYS := hid (fun h2 h3 h4 => mk_yes (M := M) (x := x) (y := y) h0 h2 h3 h4)
 rw [<- hB] at HYS HN4
 have i0 : (0 : Int) < (n : Int) := by omega
 have HCI := hid (fun (X : World) (hX : Below w.heap.size w X) => containsInv X a2 n2 cap2 x hn2 hm2 (H2.below hX))
 have HRW := hid (fun (X : World) (hX : Below w.heap.size w X) => H.below hX)
 have HXI := hid (fun (X : World) (hX : Below w.heap.size w X) => H2.below hX)
 have HYI := hid (fun (X : World) (hX : Below w.heap.size w X) => H3.below hX)
 have HMW := hid (show ∀ r ∈ M, r.length = zAB M ∧ ∀ k, -1 <= vec r k ∧ vec r k <= 1 from fun r hr => ⟨hM.wid r hr, hM.one r hr⟩)
 have HYB := hid (mil_le hmil)
 have HN := hid hn
 have HNX := hid hn2
 have HNY := hid hn3
 have HHN := hid (show n3 = n by omega)
 have hn6 : n <= 6 := by omega
 obtain ⟨W, hW⟩ := exq (zAB M)
 rw [<- hW] at HCC HN2 HN4 HYS HMW hc10 hc1
 clear hn hn2 hn3 H H2 H3 hB h0 hok hyl hmil hM h1 h6 hb hc HN1 hW
 by_cases hlw : n2 = W
 rotate_left
 ·obtain rfl : B = false := HN2.out (by rw [HNX.out]; exact hlw)
  have hlb : ((n2 : Int) != (W : Int)) = true := by simp; omega
  clear HN3 HN4 HYS HCI HRW HXI HYI HMW HYB
  go_enter Tryz.func84, Tryz.ntmps84
  go_wp2_with (go_at_call 153; refine HRD.out.mono ?_; rintro e w1 ⟨rfl, hb1⟩; refine Stop.of ?_)
  refine Stop.go ?_
  have cc := HCC.out _ hb1
  go_wp2
  go_ret
  exact ⟨rfl, hb1⟩
 subst hlw
 have hlb : ((n2 : Int) != (n2 : Int)) = false := by simp
 obtain ⟨V, hV⟩ := exq (!x.all zAM)
 rw [<- hV] at HCI
 have HVV := hid hV.symm
 clear hV
 go_enter Tryz.func84, Tryz.ntmps84
 go_wp2_with (go_at_call 153; refine HRD.out.mono ?_; rintro e w1 ⟨rfl, hb1⟩; refine Stop.of ?_)
 refine Stop.go ?_
 have cc := HCC.out _ hb1
 have HB1 := hid hb1
 have HCI1 := hid (HCI.out _ hb1)
 clear hb1 HCI HRD
 go_wp2_with (go_at_call 80; refine HCI1.out.mono ?_; rintro e w2 ⟨rfl, hb2⟩; refine Stop.of ?_)
 refine Stop.go ?_
 have HB2 := hid (zAA HB1.out hb2)
 clear hb2 HB1 HCI1 cc HCC
 cases V
 rotate_left
 ·obtain rfl : B = false := HN3.out (by have := HVV.out; simpa using this)
  go_wp2
  go_ret
  exact ⟨rfl, HB2.out⟩
 ·have hall : x.all zAM = true := by have := HVV.out; simpa using this
  have hxv : ∀ k, 1 <= (zAE x k).2 ∧ (zAE x k).2 <= 400 ∧ -10000000000 <= (zAE x k).1 ∧ (zAE x k).1 <= 10000000000 := fun k => by
   unfold zAE
   cases e : x[k]? with
   | none => decide
   | some r =>
     have := List.all_eq_true.1 hall r (List.mem_of_getElem? e)
     rw [zBG] at this
     exact ⟨this.1, this.2.1, this.2.2.1, this.2.2.2.1⟩
  have HXV := hid hxv
  have HYS2 := hid (HYS.out HNX.out hall)
  clear hall hxv HN2 HN3 HYS HVV
  go_wp2
  go_loopw [31] (fun i wr => ∃ k : Nat, k <= n ∧ i = .int .i64 k ∧ Below w.heap.size w wr ∧ Hid (∀ q, q < k -> (sumR (M[q]?.getD []) x n2).1 = (sumR (M[q]?.getD []) x n2).2 * vec y q)) (fun i _ => n - (intOf i).toNat)
  case atStart => exact ⟨0, Nat.zero_le _, rfl, HB2.out, hid (fun q h => by omega)⟩
  case round =>
   obtain ⟨k, hk, rfl, hbk, HQ⟩ := hrel
   by_cases hlt : k < n
   ·have hkM : k < M.length := by rw [HN.out]; exact hlt
    obtain ⟨b5, o5, ra5, rn5, rc5, e5, hb5, hc5, hrn5, hrm5, hri5⟩ := (HRW.out wr hbk) k hkM
    cases e5
    obtain ⟨hwid, hone⟩ := HMW.out _ (List.getElem_mem hkM)
    obtain rfl : rn5 = n2 := by omega
    have hrowe : M[k]?.getD [] = M[k] := by rw [List.getElem?_eq_getElem hkM]; rfl
    have HNK := hid (HN4.out k hkM)
    rw [hrowe] at HNK
    have HQX := hid (fun (h : (sumR M[k] x rn5).1 = (sumR M[k] x rn5).2 * vec y k) => show ∀ q, q < k + 1 -> (sumR (M[q]?.getD []) x rn5).1 = (sumR (M[q]?.getD []) x rn5).2 * vec y q from fun q hq => by
     rcases Nat.lt_or_ge q k with h3 | h3
     ·exact HQ.out q h3
     ·obtain rfl : q = k := by omega
      rw [hrowe]; exact h)
    obtain ⟨R, hR⟩ := exq (M[k])
    rw [<- hR] at hri5 hone hwid HNK HQX
    have HBD := hid (fun j (hj : j <= 10) => zND hone HXV.out hj)
    have HBD9 := hid (fun j (hj : j <= 9) => sumR_bnd9 hone HXV.out hj)
    have HRI := hid (fun (X : World) (hX : Below wr.heap.size wr X) => hri5.below hX)
    have HONE := hid hone
    have HWID := hid hwid
    have HBK := hid hbk
    have i1 : (k : Int) < (n : Int) := by omega
    clear hR hrowe hri5 hrn5 hkM hone hwid hbk HN4 HQ
    go_wp2_with (go_at_call 95; refine (zOD _).mono ?_; rintro e w3 ⟨rfl, hb3⟩; refine Stop.of ?_)
    refine Stop.go ?_
    have hz : sumV 0 1 = .agg #[.int .i64 0, .int .u64 0, .int .i64 0, .int .u64 1] := by simp [sumV]
    rw [hz]
    clear hz
    go_wp2_with fail
    obtain ⟨wb, hwb⟩ := exq (w3.alloc (.cells #[.int .i64 0, .int .u64 0, .int .i64 0, .int .u64 1] 102))
    obtain ⟨g, hg⟩ := exq (w3.heap.size)
    have hsb : SumB wb g 0 1 := by rw [hwb, hg]; exact SumB.made w3 ⟨by decide, by decide⟩ ⟨by decide, by decide⟩
    have hbb : Below w3.heap.size w3 wb := by rw [hwb]; exact (Below.refl _ _).alloc (Nat.le_refl _) _
    rw [<- hwb, <- hg]
    have HSB := hid hsb
    have HBB := hid hbb
    have HB3 := hid hb3
    have HG := hid hg
    clear hwb hg hsb hbb hb3
    obtain ⟨wo, hwo⟩ := exq (wr)
    subst hwo
    go_loopw [39] (fun i wr => ∃ t : Nat, t <= rn5 ∧ i = .int .i64 t ∧ SumB wr g (sumR R x t).1 (sumR R x t).2 ∧ Below w3.heap.size w3 wr) (fun i _ => rn5 - (intOf i).toNat)
    case atStart => exact ⟨0, Nat.zero_le _, rfl, HSB.out, HBB.out⟩
    case round =>
     obtain ⟨t, ht, rfl, hsb, hbt⟩ := hrel
     by_cases htl : t < rn5
     ·have hbw : Below wo.heap.size wo wr := HB3.out.trans (hbt.mono HB3.out.size)
      obtain ⟨b6, o6, rfl, hb6, hc6⟩ := (HRI.out wr hbw) t (by rw [HWID.out]; exact htl)
      have hv6 : R[t]?.getD 0 = vec R t := rfl
      rw [hv6] at hc6
      have hone := HONE.out t
      have hsr : sumR R x (t + 1) = if vec R t ≠ 0 then ((sumR R x t).1 * (zAE x t).2 + (sumR R x t).2 * ((zAE x t).1 * vec R t), (sumR R x t).2 * (zAE x t).2) else sumR R x t := rfl
      obtain ⟨v, hv⟩ := exq (vec R t)
      rw [<- hv] at hc6 hsr hone
      by_cases h0 : v = 0
      ·rw [if_neg (by simp [h0])] at hsr
       have hvb : (v != 0) = false := by simp [h0]
       have HSR := hid hsr
       have HSX := hid hsb
       have HBT := hid hbt
       clear hv6 hv hsr hsb hbt hbw
       go_wp2
       refine ⟨⟨t + 1, by omega, by go_num, by rw [HSR.out]; exact HSX.out, HBT.out⟩, by simp [intOf]; omega⟩
      ·rw [if_pos h0] at hsr
       have hvb : (v != 0) = true := by simp [h0]
       obtain ⟨k1, k2, k3⟩ := HBD.out t (by omega)
       obtain ⟨m1, m2, m3⟩ := HBD.out (t + 1) (by omega)
       obtain ⟨z1, z2⟩ := HBD9.out t (by omega)
       obtain ⟨x1, x2, x3, x4⟩ := HXV.out t
       obtain ⟨bx, ox, rfl, hbx, hx0, hx1⟩ := (HXI.out wr (zAA HBK.out hbw)) t (by rw [HNX.out]; exact htl)
       have hxt : zAE x t = x[t]'(by rw [HNX.out]; exact htl) := by unfold zAE; rw [List.getElem?_eq_getElem (by rw [HNX.out]; exact htl)]; rfl
       rw [<- hxt] at hx0 hx1
       rw [hsr] at m1 m2 m3
       have HSR := hid hsr
       obtain ⟨⟨N, D⟩, hND⟩ : ∃ q, q = zAE x t := ⟨_, rfl⟩
       rw [<- hND] at hx0 hx1 m1 m2 m3 x1 x2 x3 x4 HSR
       obtain ⟨⟨sn, sd⟩, hS⟩ : ∃ q, q = sumR R x t := ⟨_, rfl⟩
       rw [<- hS] at hsb k1 k2 k3 m1 m2 m3 z1 z2 HSR
       simp only [] at hx0 hx1 m1 m2 m3 x1 x2 x3 x4 HSR hsb k1 k2 k3 z1 z2
       have e1 : (sn * D).natAbs <= 10485760000000000000000000000000000000 := by
        rw [Int.natAbs_mul]
        have : sn.natAbs * D.natAbs <= sn.natAbs * 400 := Nat.mul_le_mul_left _ (by omega)
        omega
       have e2 : (sd * (N * v)).natAbs <= 104857600000000000000000000 * 10000000000 := by
        rw [Int.natAbs_mul, Int.natAbs_mul]
        exact Nat.mul_le_mul k3 (by have : N.natAbs * v.natAbs <= 10000000000 * 1 := Nat.mul_le_mul (by omega) (by omega); omega)
       have e3 : -10000000000 <= N * v ∧ N * v <= 10000000000 := by
        have : (N * v).natAbs <= 10000000000 * 1 := by rw [Int.natAbs_mul]; exact Nat.mul_le_mul (by omega) (by omega)
        omega
       have HPL := hid (fun (X : World) => zOL X sn sd N D v (by unfold B127; omega) (by unfold B127; omega) (by omega) (by omega) (by unfold B127; omega) (by unfold B127; omega) (by unfold B127; omega) (by unfold B127; omega))
       obtain ⟨n1, n2, pn⟩ := WP.ex sn
       obtain ⟨d1, d2, pd⟩ := WP.ex sd
       obtain ⟨s1, s2, pS⟩ := WP.ex (sn * D + sd * (N * v))
       obtain ⟨q1, q2, pC⟩ := WP.ex (sd * D)
       rw [pn.sum pd, pS.sum pC] at HPL
       simp only [ratV] at HPL
       have HSS := hid (fun (X : World) (hX : SumB X g sn sd) => hX.set pS pC)
       have hcel := hsb.cells pn pd
       have hgl := hsb.lt
       have HSX := hid hsb
       have HBT := hid hbt
       have HS := hid (fun (X : World) (hX : Below wr.heap.size wr X) => show X.cell? ⟨g, 0, none⟩ = some (.int .i64 n1) ∧ X.cell? ⟨g, 1, none⟩ = some (.int .u64 n2) ∧ X.cell? ⟨g, 2, none⟩ = some (.int .i64 d1) ∧ X.cell? ⟨g, 3, none⟩ = some (.int .u64 d2) ∧ X.cell? ⟨bx, ox + t * 2, none⟩ = some (.int .i64 N) ∧ X.cell? ⟨bx, ox + t * 2 + 1, none⟩ = some (.int .i64 D) from
        ⟨(hX.cell (p := ⟨g, 0, none⟩) hgl).trans hcel.1, (hX.cell (p := ⟨g, 1, none⟩) hgl).trans hcel.2.1, (hX.cell (p := ⟨g, 2, none⟩) hgl).trans hcel.2.2.1, (hX.cell (p := ⟨g, 3, none⟩) hgl).trans hcel.2.2.2.1, (hX.cell (p := ⟨bx, _, none⟩) hbx).trans hx0, (hX.cell (p := ⟨bx, _, none⟩) hbx).trans hx1⟩)
       have htl2 : (t : Int) < (rn5 : Int) := by omega
       clear hv6 hv hsr hsb hbt hbw k1 k2 k3 m1 m2 m3 z1 z2 x1 x2 x3 x4 e1 e2 e3 hND hS pn pd pS pC hcel hx0 hx1 hxt
       go_wp2
       refine zAG (fun j' X => decide (j' <= 6) = true -> X.cell? ⟨g, 0, none⟩ = some (.int .i64 n1) ∧ X.cell? ⟨g, 1, none⟩ = some (.int .u64 n2) ∧ X.cell? ⟨g, 2, none⟩ = some (.int .i64 d1) ∧ X.cell? ⟨g, 3, none⟩ = some (.int .u64 d2) ∧ X.cell? ⟨bx, ox + t * 2, none⟩ = some (.int .i64 N) ∧ X.cell? ⟨bx, ox + t * 2 + 1, none⟩ = some (.int .i64 D)) (by kernel_rfl) ?_
       have hbd : Below wr.heap.size wr wr.drew := (Below.refl _ _).drew
       have HSXd := hid (HSX.out.keep (w' := wr.drew) rfl)
       generalize wr.drew = wd at hbd HSXd ⊢
       refine AnyT.tD (i := 0) (v := .agg #[.int .i64 n1, .int .u64 n2, .int .i64 d1, .int .u64 d2]) rfl rfl (by rintro w' ⟨y1, y2, y3, y4, y5, y6⟩; go_simp) (HS.out _ hbd) ?_; go_frame
       refine AnyT.tD (i := 1) (v := .slice (some ⟨bx, ox, none⟩) rn5 cap2) rfl rfl (by rintro w' ⟨y1, y2, y3, y4, y5, y6⟩; go_simp) (HS.out _ hbd) ?_; go_frame
       refine AnyT.tD (i := 2) (v := .int .i64 t) rfl rfl (by rintro w' ⟨y1, y2, y3, y4, y5, y6⟩; go_simp) (HS.out _ hbd) ?_; go_frame
       refine AnyT.tD (i := 3) (v := .pointer (some ⟨bx, ox + t * 2, none⟩)) rfl rfl (by rintro w' ⟨y1, y2, y3, y4, y5, y6⟩; go_simp) (HS.out _ hbd) ?_; go_frame
       refine AnyT.tD (i := 4) (v := .agg #[.int .i64 N, .int .i64 D]) rfl rfl (by rintro w' ⟨y1, y2, y3, y4, y5, y6⟩; go_simp) (HS.out _ hbd) ?_; go_frame
       refine AnyT.tD (i := 5) (v := .int .i64 v) rfl rfl (by rintro w' ⟨y1, y2, y3, y4, y5, y6⟩; go_simp) (HS.out _ hbd) ?_; go_frame
       refine AnyT.nx (i := 6) rfl ?_
       go_wp2_with (go_at_call 96; refine (HPL.out _).mono ?_; rintro e w4 ⟨rfl, hb4⟩; refine Stop.of ?_)
       refine Stop.go ?_
       have HB4 := hid (zAA hbd hb4)
       have hs4 := HSXd.out.keep (hb4.block g HSXd.out.lt)
       obtain ⟨y1, y2, y3, y4, y5, y6⟩ := HS.out _ HB4.out
       have hfz : ∀ o, w4.frozen? ⟨g, o, none⟩ = false := by
        obtain ⟨_, _, p1⟩ := WP.ex sn
        obtain ⟨_, _, p2⟩ := WP.ex sd
        exact (hs4.cells p1 p2).2.2.2.2
       have f0 := hfz 0
       have f1 := hfz 1
       have f2 := hfz 2
       have f3 := hfz 3
       have HST := hid (HSS.out w4 hs4)
       have hg4 : g < w4.heap.size := hs4.lt
       have HBE := hid (show Below w3.heap.size w3 ((((w4.setCell ⟨g, 0, none⟩ (.int .i64 s1)).setCell ⟨g, 1, none⟩ (.int .u64 s2)).setCell ⟨g, 2, none⟩ (.int .i64 q1)).setCell ⟨g, 3, none⟩ (.int .u64 q2)) from by
        have hg3 : w3.heap.size <= g := by rw [HG.out]; exact Nat.le_refl _
        exact zAD (zAD (zAD (zAD (HBT.out.trans (HB4.out.mono HBT.out.size)) hg3 0 _) hg3 1 _) hg3 2 _) hg3 3 _)
       clear hs4 hfz HSS HPL hb4 HSXd hbd
       go_wp2
       refine ⟨fun _ => HS.out _ HB4.out, ?_⟩
       refine AnyT.nx (i := 7) rfl ?_
       go_wp2
       refine ⟨fun h => absurd h (by decide), ?_⟩
       refine AnyT.done (by kernel_rfl) ?_ _
       go_wp2
       refine ⟨⟨t + 1, by omega, by go_num, ?_, HBE.out⟩, by simp [intOf]; omega⟩
       rw [HSR.out]
       exact HST.out
     ·obtain rfl : t = rn5 := by omega
      have hbw : Below wo.heap.size wo wr := HB3.out.trans (hbt.mono HB3.out.size)
      obtain ⟨k1, k2, k3⟩ := HBD.out t (by omega)
      have hkY : k < y.length := by rw [HNY.out, HHN.out]; exact hlt
      obtain ⟨by7, oy7, rfl, hby, hcy⟩ := (HYI.out wr (zAA HBK.out hbw)) k hkY
      have hvy : y[k]?.getD 0 = vec y k := rfl
      rw [hvy] at hcy
      have hyb := zDR (P := fun z => -1000000 <= z ∧ z <= 1000000) (by decide) HYB.out k
      obtain ⟨yv, hyv⟩ := exq (vec y k)
      rw [<- hyv] at hcy hyb HNK HQX
      obtain ⟨⟨sn, sd⟩, hS⟩ : ∃ q, q = sumR R x t := ⟨_, rfl⟩
      rw [<- hS] at hsb k1 k2 k3 HNK HQX
      simp only [] at hsb k1 k2 k3 HNK HQX
      have e2 : (sd * yv).natAbs <= 104857600000000000000000000 * 1000000 := by
       rw [Int.natAbs_mul]
       exact Nat.mul_le_mul k3 (by omega)
      have HCP := hid (fun (X : World) => zJR X sn sd yv (by unfold B127; omega) (by omega) (by unfold B127; omega))
      obtain ⟨n1, n2, pn⟩ := WP.ex sn
      obtain ⟨d1, d2, pd⟩ := WP.ex sd
      rw [pn.sum pd] at HCP
      obtain ⟨z0, z1, z2, z3, _⟩ := hsb.cells pn pd
      have l0 := zAX hsb.lt z0
      have l1 := zAX hsb.lt z1
      have l2 := zAX hsb.lt z2
      have l3 := zAX hsb.lt z3
      have l4 := zAX hby hcy
      have hcz : (cmpI sn (sd * yv) = 0 ↔ sn = sd * yv) := by unfold cmpI; split <;> (try split) <;> omega
      obtain ⟨cv, hcv⟩ := exq (cmpI sn (sd * yv))
      rw [<- hcv] at HCP hcz
      have HCZ := hid hcz
      have HBT := hid (zAA HBK.out hbw)
      have i3 : (k : Int) < (n3 : Int) := by have := HHN.out; omega
      have i4 : (0 : Int) <= (k : Int) := by omega
      clear hbw hkY hvy hyv hS hsb k1 k2 k3 e2 pn pd z0 z1 z2 z3 hcv hcz hcy hbt hyb
      go_wp2
      refine zDA (by kernel_rfl) (by kernel_rfl) ?_
      repeat (go_big_quiet_step ((go_at_call 155; exact zCF (HCP.out _))))
      refine wpQuiet_nil ?_
      rintro _ ⟨X, rfl⟩
      have HFB := hid (zAA HBT.out (zCU wr X))
      clear l0 l1 l2 l3 l4
      by_cases hc0 : cv = 0
      ·have hcb : (cv != 0) = false := by simp [hc0]
       have HX := hid (HQX.out (HCZ.out.1 hc0))
       go_wp2
       exact ⟨⟨k + 1, by omega, by go_num, HFB.out, HX⟩, by simp [intOf]; omega⟩
      ·have hcb : (cv != 0) = true := by simp [hc0]
       obtain rfl : B = false := HNK.out (fun h => hc0 (HCZ.out.2 h))
       go_wp2
       go_ret
       exact ⟨rfl, HFB.out⟩
   ·obtain rfl : k = n := by omega
    obtain rfl : B = true := HYS2.out (fun i hi => HQ.out i (by have := HN.out; omega))
    go_wp2
    go_ret
    exact ⟨rfl, hbk⟩
end
section
open Go.RowKit Go.Lib
theorem zLX (w : World) (a a2 : Option Addr) (n cap n2 cap2 : Nat) (M : Mask) (y : List Int) (hn : M.length = n) (hn2 : y.length = n2) (hm : n <= maxLen) (hm2 : n2 <= maxLen) (H : zAK w a M) (H2 : zAH w a2 y) :
 Calls Tryz.prog 17 #[.slice a n cap, .slice a2 n2 cap2] w fun e w' => e = .returned (.bool (decide (rdE M y = 0))) ∧ w = w' := by
 have HC := hid (r3Read_c w a a2 n cap n2 cap2 M y hn hn2 hm hm2 H H2)
 obtain ⟨E, hE⟩ := exq (rdE M y)
 rw [<- hE] at HC ⊢
 clear hE hn hn2 H H2
 go_enter Tryz.func17, Tryz.ntmps17
 go_wp2_with (go_at_call 71; refine HC.out.mono ?_; rintro e w1 ⟨rfl, rfl⟩; refine Stop.of ?_)
 refine Stop.go ?_
 go_wp2
 go_ret
 exact ⟨zAZ (by rw [Bool.eq_iff_iff]; simp), rfl⟩
end
section
def denP (x : List Rt) : Nat -> Int
 | 0 => 1
 | k + 1 => denP x k * (zAE x k).2
theorem denP_ne {x : List Rt} (h : ∀ k, (zAE x k).2 ≠ 0) : ∀ k, denP x k ≠ 0
 | 0 => by show (1 : Int) ≠ 0; decide
 | k + 1 => Int.mul_ne_zero (denP_ne h k) (h k)
theorem denP_dvd (x : List Rt) : ∀ (k i : Nat), i < k -> (zAE x i).2 ∣ denP x k
 | 0, i, h => by omega
 | k + 1, i, h => by
   by_cases e : i = k
   ·subst e; exact ⟨denP x i, Int.mul_comm _ _⟩
   ·obtain ⟨c, hc⟩ := denP_dvd x k i (by omega)
    exact ⟨c * (zAE x k).2, by rw [denP, hc]; grind⟩
def numP (x : List Rt) (W i : Nat) : Int := (zAE x i).1 * (denP x W / (zAE x i).2)
theorem numP_eq {x : List Rt} {W i : Nat} (hi : i < W) : numP x W i * (zAE x i).2 = (zAE x i).1 * denP x W := by
 have h2 := Int.ediv_mul_cancel (denP_dvd x W i hi)
 unfold numP
 rw [Int.mul_assoc, h2]
end
end
section
def sumA {α : Type} (v : α -> Int) : List α -> Nat
 | [] => 0
 | r :: rs => (v r).natAbs + sumA v rs
def pairA {α : Type} (c d : α -> Int) : List α -> Nat
 | [] => 0
 | r :: rs => sumA (fun s => c r * d s - d r * c s) rs + pairA c d rs
theorem ex_abs {α : Type} (v : α -> Int) : ∀ (l : List α) (F : Nat) (f : List α -> Int), (∀ m : List α, m.length + 1 = l.length -> (f m).natAbs <= F) -> (ex v f l).natAbs <= F * sumA v l
 | [], F, f, _ => by simp [ex]
 | r :: rs, F, f, hf => by
   have h1 := ex_abs v rs F (fun l => f (r :: l)) (fun m hm => hf _ (by simp; omega))
   have h2 := hf rs (by simp)
   have h3 : (v r * f rs).natAbs <= F * (v r).natAbs := by rw [Int.natAbs_mul, Nat.mul_comm]; exact Nat.mul_le_mul_right _ h2
   unfold ex sumA
   rw [Nat.mul_add]
   omega
theorem ex_lin {α : Type} (c d : α -> Int) (x y : Int) : ∀ (l : List α) (f : List α -> Int), ex (fun s => x * d s - y * c s) f l = x * ex d f l - y * ex c f l
 | [], f => by simp [ex]
 | r :: rs, f => by
   unfold ex
   rw [ex_lin c d x y rs (fun l => f (r :: l))]
   grind
theorem ex2_abs {α : Type} (c d : α -> Int) : ∀ (l : List α) (F : Nat) (f : List α -> Int), (∀ m : List α, m.length + 2 = l.length -> (f m).natAbs <= F) -> (ex c (ex d f) l).natAbs <= F * pairA c d l
 | [], F, f, _ => by simp [ex]
 | r :: rs, F, f, hf => by
   have h1 := ex2_abs c d rs F (fun k => f (r :: k)) (fun m hm => hf _ (by simp; omega))
   have e1 : ex c (fun l => ex d f (r :: l)) rs = d r * ex c f rs - ex c (ex d (fun m => f (r :: m))) rs := by
    have : (fun l => ex d f (r :: l)) = fun l => d r * f l - ex d (fun m => f (r :: m)) l := by funext l; rfl
    rw [this, ex_sub c rs (fun l => d r * f l) (fun l => ex d (fun m => f (r :: m)) l), ex_mul]
   have e2 : ex c (ex d f) (r :: rs) = ex (fun s => c r * d s - d r * c s) f rs + ex c (ex d (fun m => f (r :: m))) rs := by
    rw [ex_lin]
    show c r * ex d f rs - ex c (fun l => ex d f (r :: l)) rs = _
    rw [e1]; omega
   have h2 := ex_abs (fun s => c r * d s - d r * c s) rs F f (fun m hm => hf m (by simp; omega))
   rw [e2]
   unfold pairA
   rw [Nat.mul_add]
   omega
structure Cnt where
 a : Nat
 b : Nat
 c : Nat
 d : Nat
def cnt {α : Type} (c d : α -> Int) : List α -> Cnt
 | [] => ⟨0, 0, 0, 0⟩
 | r :: rs =>
   let k := cnt c d rs
   if c r = 0 then (if d r = 0 then k else { k with d := k.d + 1 }) else if d r = 0 then { k with c := k.c + 1 } else if c r = d r then { k with a := k.a + 1 } else { k with b := k.b + 1 }
theorem zPH {α : Type} (c d : α -> Int) (r : α) (rs : List α) : cnt c d (r :: rs) = if c r = 0 then (if d r = 0 then cnt c d rs else { cnt c d rs with d := (cnt c d rs).d + 1 }) else if d r = 0 then { cnt c d rs with c := (cnt c d rs).c + 1 } else if c r = d r then { cnt c d rs with a := (cnt c d rs).a + 1 } else { cnt c d rs with b := (cnt c d rs).b + 1 } := rfl
theorem one3 {x : Int} (h : -1 <= x ∧ x <= 1) : x = -1 ∨ x = 0 ∨ x = 1 := by omega
theorem cnt_le {α : Type} (c d : α -> Int) : ∀ l : List α, (cnt c d l).a + (cnt c d l).b + (cnt c d l).c + (cnt c d l).d <= l.length
 | [] => by simp [cnt]
 | r :: rs => by
   have := cnt_le c d rs
   rw [zPH]
   simp only [List.length_cons]
   generalize cnt c d rs = k at this ⊢
   obtain ⟨A, B, C, D⟩ := k
   split <;> (try split) <;> (try split) <;> (try simp only []) <;> (try simp only [] at this) <;> omega
theorem sum_cnt {α : Type} {c d : α -> Int} (hc : ∀ r, -1 <= c r ∧ c r <= 1) (hd : ∀ r, -1 <= d r ∧ d r <= 1) (x y : Int) (hx : -1 <= x ∧ x <= 1) (hy : -1 <= y ∧ y <= 1) : ∀ l : List α,
 sumA (fun s => x * d s - y * c s) l = if x = 0 then (if y = 0 then 0 else (cnt c d l).a + (cnt c d l).b + (cnt c d l).c) else if y = 0 then (cnt c d l).a + (cnt c d l).b + (cnt c d l).d else if x = y then 2 * (cnt c d l).b + (cnt c d l).c + (cnt c d l).d else 2 * (cnt c d l).a + (cnt c d l).c + (cnt c d l).d
 | [] => by simp [sumA, cnt]
 | r :: rs => by
   have ih := sum_cnt hc hd x y hx hy rs
   unfold sumA
   rw [ih, zPH]
   have h1 := one3 (hc r)
   have h2 := one3 (hd r)
   generalize c r = p at h1 ⊢
   generalize d r = q at h2 ⊢
   generalize cnt c d rs = k
   rcases one3 hx with rfl | rfl | rfl <;> rcases one3 hy with rfl | rfl | rfl <;> rcases h1 with rfl | rfl | rfl <;> rcases h2 with rfl | rfl | rfl <;> simp <;> omega
theorem pair_cnt {α : Type} {c d : α -> Int} (hc : ∀ r, -1 <= c r ∧ c r <= 1) (hd : ∀ r, -1 <= d r ∧ d r <= 1) : ∀ l : List α,
 pairA c d l = 2 * ((cnt c d l).a * (cnt c d l).b) + (cnt c d l).c * (cnt c d l).d + ((cnt c d l).c + (cnt c d l).d) * ((cnt c d l).a + (cnt c d l).b)
 | [] => by simp [pairA, cnt]
 | r :: rs => by
   have ih := pair_cnt hc hd rs
   have hs := sum_cnt hc hd (c r) (d r) (hc r) (hd r) rs
   unfold pairA
   rw [hs, ih, zPH]
   have h1 := one3 (hc r)
   have h2 := one3 (hd r)
   generalize c r = p at h1 ⊢
   generalize d r = q at h2 ⊢
   generalize cnt c d rs = k
   obtain ⟨A, B, C, D⟩ := k
   rcases h1 with rfl | rfl | rfl <;> rcases h2 with rfl | rfl | rfl <;> simp <;> grind
theorem pair_le {α : Type} {c d : α -> Int} (hc : ∀ r, -1 <= c r ∧ c r <= 1) (hd : ∀ r, -1 <= d r ∧ d r <= 1) (l : List α) : 2 * pairA c d l <= l.length * l.length := by
 rw [pair_cnt hc hd l]
 have h := cnt_le c d l
 generalize cnt c d l = k at h ⊢
 obtain ⟨A, B, C, D⟩ := k
 simp only [] at h ⊢
 refine Nat.le_trans ?_ (Nat.mul_le_mul h h)
 have hab : 2 * (A * B) <= A * A + B * B := by
  rcases Nat.le_total A B with e | e
  ·obtain ⟨t, rfl⟩ := Nat.exists_eq_add_of_le e
   have := Nat.zero_le (t * t)
   grind
  ·obtain ⟨t, rfl⟩ := Nat.exists_eq_add_of_le e
   have := Nat.zero_le (t * t)
   grind
 have h1 := Nat.zero_le (C * C)
 have h2 := Nat.zero_le (D * D)
 have e : (A + B + C + D) * (A + B + C + D) = A * A + B * B + 2 * (A * B) + (C * C + D * D + 2 * (C * D)) + 2 * ((C + D) * (A + B)) := by grind
 rw [e]
 omega
theorem det_288 {α : Type} (cs : List (α -> Int)) (hc : ∀ c ∈ cs, ∀ r, -1 <= c r ∧ c r <= 1) (l : List α) (hl : l.length = cs.length) (h6 : cs.length <= 6) : (det cs l).natAbs <= 288 := by
 have two : ∀ (c d : α -> Int) (ds : List (α -> Int)) (F : Nat) (m : List α), (∀ r, -1 <= c r ∧ c r <= 1) -> (∀ r, -1 <= d r ∧ d r <= 1) -> (∀ k : List α, k.length + 2 = m.length -> (det ds k).natAbs <= F) -> (det (c :: d :: ds) m).natAbs <= F * (m.length * m.length / 2) := by
  intro c d ds F m h1 h2 h3
  refine Nat.le_trans (ex2_abs c d m F (det ds) h3) (Nat.mul_le_mul_left _ ?_)
  have := pair_le h1 h2 m
  omega
 have d0 : ∀ m : List α, (det ([] : List (α -> Int)) m).natAbs <= 1 := fun m => by simp [det]
 have d1 : ∀ (c : α -> Int) (m : List α), (∀ r, -1 <= c r ∧ c r <= 1) -> m.length = 1 -> (det [c] m).natAbs <= 1 := by
  intro c m h hm
  match m, hm with
  | [r], _ => have := h r; simp [det, ex]; omega
 match cs, hc, hl, h6 with
 | [], _, _, _ => have := d0 l; omega
 | [c], hc, hl, _ => have := d1 c l (hc c (by simp)) (by simpa using hl); omega
 | [c, d], hc, hl, _ =>
   have := two c d [] 1 l (hc c (by simp)) (hc d (by simp)) (fun k _ => d0 k)
   rw [hl] at this; simp at this; omega
 | [c, d, e], hc, hl, _ =>
   have := two c d [e] 1 l (hc c (by simp)) (hc d (by simp)) (fun k hk => d1 e k (hc e (by simp)) (by simp at hl; omega))
   rw [hl] at this; simp at this; omega
 | [c, d, e, f], hc, hl, _ =>
   have := two c d [e, f] 2 l (hc c (by simp)) (hc d (by simp)) (fun k hk => by
    have := two e f [] 1 k (hc e (by simp)) (hc f (by simp)) (fun k _ => d0 k)
    rw [show k.length = 2 by simp at hl; omega] at this; simpa using this)
   rw [hl] at this; simp at this; omega
 | [c, d, e, f, g], hc, hl, _ =>
   have := two c d [e, f, g] 4 l (hc c (by simp)) (hc d (by simp)) (fun k hk => by
    have hk3 : k.length = 3 := by simp at hl; omega
    have := two e f [g] 1 k (hc e (by simp)) (hc f (by simp)) (fun j hj => d1 g j (hc g (by simp)) (by omega))
    rw [hk3] at this; simpa using this)
   rw [hl] at this; simp at this; omega
 | [c, d, e, f, g, h], hc, hl, _ =>
   have := two c d [e, f, g, h] 16 l (hc c (by simp)) (hc d (by simp)) (fun k hk => by
    have hk4 : k.length = 4 := by simp at hl; omega
    have := two e f [g, h] 2 k (hc e (by simp)) (hc f (by simp)) (fun j hj => by
     have := two g h [] 1 j (hc g (by simp)) (hc h (by simp)) (fun k _ => d0 k)
     rw [show j.length = 2 by omega] at this; simpa using this)
    rw [hk4] at this; simpa using this)
   rw [hl] at this; simp at this; omega
 | _ :: _ :: _ :: _ :: _ :: _ :: _ :: _, _, _, h6 => simp at h6
end
section
theorem RInv.piv_288 {W N : Nat} {A0 : Nat -> Vec} {j : Nat} {L : List (List Int)} {J : List Nat} (h : RInv W N A0 j L J) (hN : N <= 6) (h1 : ∀ x ∈ J, ∀ r, -1 <= A0 r x ∧ A0 r x <= 1) {k : Nat} (hk : k < J.length) :
 0 < rowv L k (jf J k) ∧ rowv L k (jf J k) <= 288 := by
 have hp := (h.pp k hk).2
 refine ⟨hp, ?_⟩
 obtain ⟨A, hs, hA⟩ := h.st
 have hd := det_288 (zCT (jf J) A J.length) (fun x hx r => by
  obtain ⟨k, hk, rfl⟩ := zFV.1 hx
  obtain ⟨q0, e⟩ := hA r
  simp only [e]
  exact h1 _ (by unfold jf; rw [List.getElem?_eq_getElem hk]; exact List.getElem_mem hk) q0) (zCQ J.length) (by rw [zET, zCY]) (by rw [zCY]; exact Nat.le_trans hs.le hN)
 have h0 := hs.d0
 have hdv := Int.natAbs_dvd_natAbs.2 (hs.piv_dvd hk (h.pp k hk).1)
 have := Nat.le_of_dvd (by omega) hdv
 omega
theorem sys_zero {R : List (List Int)} {n Y : Nat} (h : MaskY R n Y) (hn : n ∉ (rRed R (n + 1)).piv) {q : Nat} (h1 : (pRed R n).2.length <= q) (h2 : q < R.length) (c : Nat) : rowv (pRed R n).1 q c = 0 := by
 have hi := zCI R h.wid n (fun j hj q => zCC (by decide) (fun r hr => h.one r hr j hj) q)
 rcases Nat.lt_or_ge c n with hc | hc
 ·exact hi.zero q h1 h2 c hc
 ·by_cases e : c = n
  ·subst e
   rcases Classical.em (rowv (pRed R c).1 q c = 0) with e0 | e0
   ·exact e0
   ·exact absurd (red_more (m := c + 1) h.wid h.one (Nat.le_refl _) h1 h2 e0) hn
  ·exact zHK hi.wid q (by omega)
theorem zHB {α : Type} (f : Nat -> α) (g : Nat -> Nat) (l : List α) : ∀ (K j : Nat), (∀ a, a < K -> g a ≠ j) -> ((List.range K).foldl (fun out i => out.set (g i) (f i)) l)[j]? = l[j]?
 | 0, j, _ => by simp
 | K + 1, j, h => by
   rw [List.range_succ, List.foldl_append]
   simp only [List.foldl_cons, List.foldl_nil]
   rw [List.getElem?_set_ne (h K (by omega))]
   exact zHB f g l K j (fun a ha => h a (by omega))
theorem zKH {R : List (List Int)} {n Y : Nat} (h : MaskY R n Y) (hn : n ∉ (rRed R (n + 1)).piv) :
 (zBM R n).2.2 = true ∧ (zBM R n).1.length = n ∧ (∀ i, i < (pRed R n).2.length -> zAE (zBM R n).1 (jf (pRed R n).2 i) = zAY (rowv (pRed R n).1 i n) (rowv (pRed R n).1 i (jf (pRed R n).2 i))) ∧
 (∀ j, j ∉ (pRed R n).2 -> zAE (zBM R n).1 j = (0, 1)) := by
 have hi := zCI R h.wid n (fun j hj q => zCC (by decide) (fun r hr => h.one r hr j hj) q)
 obtain ⟨e1, e2⟩ := zOP (m := n + 1) h.wid h.one (Nat.le_refl _) (fun q h1 h2 c _ _ => sys_zero h hn h1 h2 c)
 have hl := zFB R n
 have hK := hi.K_le
 unfold zBM
 simp only []
 rw [if_neg hn, e2, <- e1]
 refine ⟨rfl, by rw [zEF]; simp, fun i hlt => ?_, fun j hj => ?_⟩
 ·unfold zAE
  rw [zKM (fun i => zAY (vec (((pRed R n).1.take (pRed R n).2.length)[i]?.getD []) n) (vec (((pRed R n).1.take (pRed R n).2.length)[i]?.getD []) (jf (pRed R n).2 i))) (fun i => jf (pRed R n).2 i) _ _ i hlt (by simp only [List.length_replicate]; exact hi.jf_lt hlt) (fun a b h1 h2 => by have := hi.ech.asc a b h1 h2; omega)]
  rw [List.getElem?_take_of_lt hlt]
  rfl
 ·unfold zAE
  rw [zHB _ _ _ _ j (fun a ha e => hj (by rw [<- e]; exact jf_mem ha)), List.getElem?_replicate]
  split <;> rfl
theorem zDD {a b : Int} (hb : 0 < b) : 0 < (zAY a b).2 ∧ (zAY a b).2 <= b ∧ (zAY a b).1.natAbs <= a.natAbs ∧ Int.gcd (zAY a b).1 (zAY a b).2 = 1 ∧ (zAY a b).1 * b = a * (zAY a b).2 := by
 have g1 : 0 < Int.gcd a b := Nat.pos_of_ne_zero fun e => by have := (Int.gcd_eq_zero_iff.1 e).2; omega
 obtain ⟨a1, ha⟩ := Int.gcd_dvd_left a b
 obtain ⟨b1, hb1⟩ := Int.gcd_dvd_right a b
 have hG0 : ((Int.gcd a b : Nat) : Int) ≠ 0 := by omega
 have e : zAY a b = (a1, b1) := by
  unfold zAY
  rw [Int.tdiv_eq_of_eq_mul_left hG0 (c := a1) (by rw [Int.mul_comm]; exact ha), Int.tdiv_eq_of_eq_mul_left hG0 (c := b1) (by rw [Int.mul_comm]; exact hb1)]
 rw [e]
 have hb0 : 0 < b1 := by
  rcases Int.lt_or_le 0 b1 with h | h
  ·exact h
  ·have : ((Int.gcd a b : Nat) : Int) * b1 <= 0 := Int.mul_nonpos_of_nonneg_of_nonpos (by omega) h
   omega
 have hg : Int.gcd a1 b1 = 1 := by
  have k1 : Int.gcd (((Int.gcd a b : Nat) : Int) * a1) (((Int.gcd a b : Nat) : Int) * b1) = Int.gcd a b * Int.gcd a1 b1 := by
   rw [Int.gcd_mul_left]; simp
  rw [<- ha, <- hb1] at k1
  exact Nat.eq_of_mul_eq_mul_left g1 (by omega)
 refine ⟨hb0, ?_, ?_, hg, ?_⟩
 ·have : b1 * 1 <= b1 * ((Int.gcd a b : Nat) : Int) := Int.mul_le_mul_of_nonneg_left (by omega) (by omega)
  rw [Int.mul_comm b1 ((Int.gcd a b : Nat) : Int)] at this
  omega
 ·have : a1.natAbs <= Int.gcd a b * a1.natAbs := Nat.le_mul_of_pos_left _ g1
  have h2 : a.natAbs = Int.gcd a b * a1.natAbs := by
   have := congrArg Int.natAbs ha
   rwa [Int.natAbs_mul, Int.natAbs_natCast] at this
  omega
 ·show a1 * b = a * b1
  generalize ((Int.gcd a b : Nat) : Int) = G at ha hb1
  rw [ha, hb1]; grind
theorem sys_le {R : List (List Int)} {n Y : Nat} (h : MaskY R n Y) (i c : Nat) : (rowv (pRed R n).1 i c).natAbs <= 720 * Y := by
 unfold rowv
 cases hk : (pRed R n).1[i]? with
 | none => simp [vec]
 | some r =>
   have h2 := (pRed_le (n := n) (Y := Y) h.wid h.le6 (fun r hr c hc => h.one r hr c hc) h.all (Nat.le_refl n) r (List.mem_of_getElem? hk)).2
   have := zDR (P := fun x => x.natAbs <= 720 * Y) (by simp) (fun x hx => by have := h2 x hx; omega) c
   simpa using this
theorem zKG {R : List (List Int)} {n Y : Nat} (h : MaskY R n Y) (hY : Y <= 1000000) (hn : n ∉ (rRed R (n + 1)).piv) : (zBM R n).1.all zAM = true ∧ ∀ j, 0 < (zAE (zBM R n).1 j).2 := by
 obtain ⟨_, hl, hp, ho⟩ := zKH h hn
 have hi := zCI R h.wid n (fun j hj q => zCC (by decide) (fun r hr => h.one r hr j hj) q)
 have hv : ∀ j, zAM (zAE (zBM R n).1 j) = true := by
  intro j
  by_cases hj : j ∈ (pRed R n).2
  ·obtain ⟨i, hilt, e⟩ := List.mem_iff_getElem.1 hj
   have ej : jf (pRed R n).2 i = j := by unfold jf; rw [List.getElem?_eq_getElem hilt]; simpa using e
   rw [<- ej, hp i hilt]
   obtain ⟨b1, b2⟩ := hi.piv_288 h.le6 (fun x hx r => zCC (by decide) (fun r hr => h.one r hr x (hi.lt x hx)) r) hilt
   have b3 := sys_le h i n
   obtain ⟨c1, c2, c3, c4, _⟩ := zDD (a := rowv (pRed R n).1 i n) b1
   have b4 : 720 * Y <= 720000000 := by omega
   rw [zBG]
   exact ⟨by omega, by omega, by omega, by omega, c4⟩
  ·rw [ho j hj]; decide
 refine ⟨List.all_eq_true.2 fun r hr => ?_, fun j => ?_⟩
 ·obtain ⟨j, hj, e⟩ := List.mem_iff_getElem.1 hr
  have := hv j
  unfold zAE at this
  rw [List.getElem?_eq_getElem hj] at this
  rw [<- e]; exact this
 ·have := (zBG.1 (hv j)).1; omega
theorem zLP (f : Nat -> Int) (n : Nat) : sm f (n + 1) = sm f n + f n := rfl
theorem solved_row {R : List (List Int)} {n Y : Nat} (h : MaskY R n Y) (hY : Y <= 1000000) (hn : n ∉ (rRed R (n + 1)).piv) {u : Vec} (hu : Sp (RB R.length (rowv R)) u) :
 sm (fun j => u j * numP (zBM R n).1 n j) n = u n * denP (zBM R n).1 n := by
 obtain ⟨_, hl, hp, ho⟩ := zKH h hn
 obtain ⟨_, hpos⟩ := zKG h hY hn
 have hi := zCI R h.wid n (fun j hj q => zCC (by decide) (fun r hr => h.one r hr j hj) q)
 have hden : denP (zBM R n).1 n ≠ 0 := denP_ne (fun k => by have := hpos k; omega) n
 have hnum := fun i (hi : i < n) => numP_eq (x := (zBM R n).1) (W := n) hi
 generalize (zBM R n).1 = X at hl hp ho hpos hden hnum ⊢
 have hsp := (hi.span (fun q h1 h2 c => sys_zero h hn h1 h2 c)).2 hu
 have key := zPD (B := RB (pRed R n).2.length (rowv (pRed R n).1)) (h := fun c => if c < n then numP X n c else -denP X n) (n := n + 1) (by
  rintro v ⟨k, hk, rfl⟩
  have hkn := hi.jf_lt hk
  unfold dotS
  rw [zLP, zAO (g := fun c => rowv (pRed R n).1 k c * numP X n c) (fun c hc => by simp only [if_pos hc])]
  simp only [Nat.lt_irrefl, if_false]
  rw [zDY hkn (fun c hc hne => ?_)]
  ·have e1 := hnum _ hkn
   rw [hp k hk] at e1
   have hb := (hi.pp k hk).2
   obtain ⟨c1, _, _, _, c5⟩ := zDD (a := rowv (pRed R n).1 k n) hb
   -- num * b2 = b1 * den, b1 * b = a * b2
   generalize rowv (pRed R n).1 k (jf (pRed R n).2 k) = b at *
   generalize rowv (pRed R n).1 k n = a at *
   generalize zAY a b = p at *
   obtain ⟨b1, b2⟩ := p
   dsimp only at *
   have e2 : b2 * (b * numP X n (jf (pRed R n).2 k)) = b2 * (a * denP X n) := by
    have : b2 * (b * numP X n (jf (pRed R n).2 k)) = b * (numP X n (jf (pRed R n).2 k) * b2) := by grind
    rw [this, e1]
    have : b * (b1 * denP X n) = (b1 * b) * denP X n := by grind
    rw [this, c5]; grind
   have e3 := Int.eq_of_mul_eq_mul_left (show b2 ≠ 0 by omega) e2
   rw [e3, Int.mul_neg]; omega
  ·by_cases hm : c ∈ (pRed R n).2
   ·obtain ⟨q, hq, e⟩ := List.mem_iff_getElem.1 hm
    have ej : jf (pRed R n).2 q = c := by unfold jf; rw [List.getElem?_eq_getElem hq]; simpa using e
    have hqk : q ≠ k := fun e2 => hne (by rw [<- ej, e2])
    rw [<- ej, hi.ech.red.off k hk q hq (fun e3 => hqk e3.symm)]
    simp
   ·have e1 := hnum c hc
    rw [ho c hm] at e1
    simp at e1
    rw [e1]; simp) hsp
 unfold dotS at key
 rw [zLP, zAO (g := fun c => u c * numP X n c) (fun c hc => by simp only [if_pos hc])] at key
 simp only [Nat.lt_irrefl, if_false] at key
 rw [Int.mul_neg] at key
 omega
end
section
theorem zLI {M : List (List Int)} {n : Nat} (h : MaskOk M n) {y : List Int} (hy : y.length = M.length) {q : Nat} (hq : q < M.length) : zEN n (rowv (zAI M y) q) = rowv M q := by
 funext c
 unfold zEN
 by_cases hc : c < n
 ·rw [if_pos hc, zGR h hy hq, if_pos hc]
 ·rw [if_neg hc, zHK h.wid q (by omega)]
theorem zLJ {M : List (List Int)} {n : Nat} (h : MaskOk M n) {y : List Int} (hy : y.length = M.length) {Y : Nat} (hY : MaskY (zAI M y) n Y) : (pRed (zAI M y) n).2 = JP M n := by
 have he := zCI (zAI M y) hY.wid n (fun j hj q => zCC (by decide) (fun r hr => hY.one r hr j hj) q)
 rw [zDV hy] at he
 have hi := h.inv n
 have hE : Ech (pRed (zAI M y) n).2.length (jf (pRed (zAI M y) n).2) (fun k => zEN n (rowv (pRed (zAI M y) n).1 k)) := by
  have e := he.ech
  refine ⟨⟨fun k hk => ?_, fun k hk q hq hne => ?_⟩, fun k hk c hc => ?_, e.asc⟩
  ·have hl := he.jf_lt hk
   simp only [zEN, if_pos hl]
   exact e.red.piv k hk
  ·have hl := he.jf_lt hq
   simp only [zEN, if_pos hl]
   exact e.red.off k hk q hq hne
  ·simp only [zEN]
   split
   ·exact e.lead k hk c hc
   ·rfl
 have s1 : ∀ k, k < (pRed (zAI M y) n).2.length -> Sp (RB (JP M n).length (rowv (RP M n))) (zEN n (rowv (pRed (zAI M y) n).1 k)) := by
  intro k hk
  refine h.span.2 (truncV_sp (B := RB M.length (rowv (zAI M y))) ?_ (he.sp1 k (Nat.lt_of_lt_of_le hk he.K_le)))
  rintro v ⟨q, hq, rfl⟩
  rw [zLI h hy hq]; exact RB.sp hq
 have s2 : ∀ k, k < (JP M n).length -> Sp (RB (pRed (zAI M y) n).2.length (fun k => zEN n (rowv (pRed (zAI M y) n).1 k))) (rowv (RP M n) k) := by
  intro k hk
  refine (h.span.1 (RB.sp hk)).trans ?_
  rintro v ⟨q, hq, rfl⟩
  rw [<- zLI h hy hq]
  refine truncV_sp (B := RB M.length (rowv (pRed (zAI M y) n).1)) ?_ (he.sp2 q hq)
  rintro v ⟨m, hm, rfl⟩
  rcases Nat.lt_or_ge m (pRed (zAI M y) n).2.length with c | c
  ·exact .of ⟨m, c, rfl⟩
  ·refine Sp.zero.congr fun x => ?_
   unfold zEN
   split
   ·exact he.zero m c hm x ‹_›
   ·rfl
 obtain ⟨hK, hJ, hR⟩ := hE.unique hi.ech s1 s2
 exact List.ext_getElem hK fun k h1 h2 => by
  have := hJ k h1
  unfold jf at this
  rw [List.getElem?_eq_getElem h1, List.getElem?_eq_getElem h2] at this
  simpa using this
end
section
def zOK (n : Nat) (J : List Int) (v : List Rt) : List Rt := (List.range J.length).foldl (fun out i => out.set (J[i]?.getD 0).toNat (v[i]?.getD (0, 0))) (List.replicate n (0, 1))
def zDG (n : Nat) (J : List Int) (v : List Rt) (k : Nat) : List Rt := (List.range k).foldl (fun out i => out.set (J[i]?.getD 0).toNat (v[i]?.getD (0, 0))) (List.replicate n (0, 1))
theorem zIK (n : Nat) (J : List Int) (v : List Rt) (k : Nat) : zDG n J v (k + 1) = (zDG n J v k).set (J[k]?.getD 0).toNat (v[k]?.getD (0, 0)) := by
 unfold zDG; rw [List.range_succ, List.foldl_append]; rfl
theorem spreadTo_len (n : Nat) (J : List Int) (v : List Rt) (k : Nat) : (zDG n J v k).length = n := by
 unfold zDG; rw [zEF (fun i => v[i]?.getD (0, 0)) (fun i => (J[i]?.getD 0).toNat)]; simp
theorem mil_int {y : List Int} (h : milB y = true) : ∀ v ∈ y, -1000000 <= v ∧ v <= 1000000 := by
 intro v hv
 have := zGF h v hv
 omega
end
section
open Go.RowKit
theorem spread_c (w : World) (W : Nat) (hW1 : 1 <= W) (hW : W <= 1000) (a a2 : Option Addr) (k cap k2 cap2 : Nat) (l : List Int) (v : List Rt) (hk : l.length = k) (hk2 : v.length = k2) (hle : k <= k2) (hm : k <= 1000) (H : zAH w a l) (H2 : zCJ w a2 v)
 (hb : ∀ i, i < k -> 0 <= l[i]?.getD 0 ∧ l[i]?.getD 0 < (W : Int)) :
 Calls Tryz.prog 162 #[.int .i64 W, .slice a k cap, .slice a2 k2 cap2] w fun e w' => ∃ g, e = .returned (.slice (some ⟨g, 0, none⟩) W W) ∧ w.heap.size <= g ∧ zBX w' g (zOK W l v) ∧ Below w.heap.size w w' := by
 obtain ⟨wa, hwa⟩ := exq (w.alloc (.cells #[.int .i64 0, .int .i64 1] 29))
 have hba : Below w.heap.size w wa := by rw [hwa]; exact (Below.refl _ _).alloc (Nat.le_refl _) _
 have hr1 : zCJ wa (some ⟨w.heap.size, 0, none⟩) [(0, 1)] := by
  intro j hj
  match j, hj with
  | 0, _ => exact ⟨_, 0, rfl, by rw [hwa]; simp, by rw [hwa, World.cell?_alloc_at _ _ _ _ rfl]; rfl, by rw [hwa, World.cell?_alloc_at _ _ _ _ rfl]; rfl⟩
 have HRP := hid (repeat_c wa (some ⟨w.heap.size, 0, none⟩) 1 (0, 1) hr1 W hW1 hW)
 have HBA := hid hba
 have HI := hid (fun (X : World) (hX : Below w.heap.size w X) => H.below hX)
 have HV := hid (fun (X : World) (hX : Below w.heap.size w X) => H2.below hX)
 have HBD := hid hb
 have HK := hid hk
 have HK2 := hid hk2
 have HT0 := hid (show zDG W l v 0 = List.replicate W (0, 1) from rfl)
 have HTS := hid (fun t => zIK W l v t)
 have HTL := hid (fun t => spreadTo_len W l v t)
 have HTE := hid (show zDG W l v k = zOK W l v by unfold zDG zOK; rw [hk])
 clear hba hr1 H H2 hb hk hk2
 go_enter Tryz.func162, Tryz.ntmps162
 go_wp2_with fail
 rw [<- hwa]
 clear hwa
 go_wp2_with (go_at_call 186; refine HRP.out.mono ?_; rintro e w1 ⟨g, rfl, hg, hrb, hb1⟩; refine Stop.of ?_)
 refine Stop.go ?_
 have HG := hid (show w.heap.size <= g from Nat.le_trans HBA.out.size hg)
 have HRB := hid hrb
 have HB1 := hid (zAA HBA.out hb1)
 clear hg hrb hb1 HRP HBA
 go_wp2
 go_loopw [16] (fun i wr => ∃ t : Nat, t <= k ∧ i = .int .i64 t ∧ zBX wr g (zDG W l v t) ∧ Below w.heap.size w wr) (fun i _ => k - (intOf i).toNat)
 case atStart => exact ⟨0, Nat.zero_le _, rfl, by rw [HT0.out]; exact HRB.out, HB1.out⟩
 case round =>
  obtain ⟨t, ht, rfl, hrt, hbt⟩ := hrel
  by_cases htl : t < k
  ·have htk : t < l.length := by rw [HK.out]; exact htl
   have htv : t < v.length := by rw [HK2.out]; omega
   obtain ⟨b5, o5, rfl, hb5, hc5⟩ := (HI.out wr hbt) t htk
   obtain ⟨b6, o6, rfl, hb6, h60, h61⟩ := (HV.out wr hbt) t htv
   obtain ⟨d1, d2⟩ := HBD.out t htl
   have hts := HTS.out t
   rw [List.getElem?_eq_getElem htv, Option.getD_some] at hts
   obtain ⟨⟨r1, r2⟩, hr⟩ : ∃ r, r = v[t]'htv := ⟨_, rfl⟩
   rw [<- hr] at h60 h61 hts
   obtain ⟨p, hp⟩ : ∃ p : Nat, (p : Int) = l[t]?.getD 0 := ⟨(l[t]?.getD 0).toNat, by omega⟩
   rw [<- hp] at hc5 d1 d2 hts
   rw [Int.toNat_natCast] at hts
   have hpl : p < (zDG W l v t).length := by rw [HTL.out]; omega
   obtain ⟨c0, c1, cf⟩ := hrt.cells hpl
   have f0 := cf (p * 2)
   have f1 := cf (p * 2 + 1)
   have hset := hrt.set hpl r1 r2
   rw [<- hts] at hset
   have HSET := hid hset
   have HBE := hid (show Below w.heap.size w ((wr.setCell ⟨g, p * 2, none⟩ (.int .i64 r1)).setCell ⟨g, p * 2 + 1, none⟩ (.int .i64 r2)) from zAD (zAD hbt HG.out _ _) HG.out _ _)
   have hgl := hrt.lt
   have i1 : (t : Int) < (k : Int) := by omega
   have i2 : (t : Int) < (k2 : Int) := by omega
   have i3 : (p : Int) < (W : Int) := d2
   obtain ⟨z0, k0⟩ : ∃ z, wr.cell? ⟨g, p * 2, none⟩ = some (.int .i64 z) := ⟨_, c0⟩
   obtain ⟨z1, k1⟩ : ∃ z, wr.cell? ⟨g, p * 2 + 1, none⟩ = some (.int .i64 z) := ⟨_, c1⟩
   clear hset hts hr hp hrt hbt cf d1 d2 c0 c1 hpl
   go_wp2
   refine ⟨⟨t + 1, by omega, by go_num, HSET.out, HBE.out⟩, by simp [intOf]; omega⟩
  ·obtain rfl : t = k := by omega
   have hni : ¬ (t : Int) < (t : Int) := by omega
   rw [HTE.out] at hrt
   go_wp2
   go_ret
   exact ⟨g, rfl, HG.out, hrt, hbt⟩
end
section
open Go.RowKit
theorem lvls_mem {n : Nat} {s : List Int} : ∀ {k : Nat}, s ∈ lvls n k -> ∃ j, j <= k ∧ s ∈ comb n j 0
 | 0, h => ⟨0, Nat.le_refl _, h⟩
 | k + 1, h => by
   rcases List.mem_append.1 h with h | h
   ·obtain ⟨j, hj, h⟩ := lvls_mem h
    exact ⟨j, by omega, h⟩
   ·exact ⟨k + 1, Nat.le_refl _, h⟩
theorem zNP (n : Nat) : ∀ k, (lvls n k).length <= (k + 1) * 2 ^ n
 | 0 => by have := zFX n 0 0; show (comb n 0 0).length <= _; omega
 | k + 1 => by
   show (lvls n k ++ comb n (k + 1) 0).length <= _
   rw [List.length_append, Nat.succ_mul]
   have h1 := zNP n k
   have h3 := zFX n (k + 1) 0
   omega
theorem allS_le {n : Nat} (h : n <= 10) : (allS n).length <= 20000 := by
 have h1 := zNP n n
 have h2 : 2 ^ n <= 2 ^ 10 := Nat.pow_le_pow_right (by decide) h
 have h3 : (n + 1) * 2 ^ n <= 11 * 2 ^ 10 := Nat.mul_le_mul (by omega) h2
 unfold allS
 omega
theorem zPM {n : Nat} {s : List Int} (h : s ∈ allS n) : s.length <= n ∧ zCK n s := by
 obtain ⟨j, hj, hs⟩ := lvls_mem h
 exact ⟨by rw [zCV n j 0 s hs]; exact hj, comb_ok hs⟩
def zKS (n q : Nat) (s : List Int) (F : Int) (t : Nat) : List (List Int) := grown n q ++ ((upF F (n - F).toNat).take t).map (fun j => s ++ [j])
theorem growT_succ {n q : Nat} {s : List Int} {F : Int} {t : Nat} (h : t < (n - F).toNat) : zKS n q s F (t + 1) = zKS n q s F t ++ [s ++ [F + t]] := by
 unfold zKS
 have h1 : t < (upF F (n - F).toNat).length := by rw [zGA]; exact h
 have h2 : (upF F (n - F).toNat)[t] = F + t := by
  have := zOH (n - F).toNat F t h
  rw [List.getElem?_eq_getElem h1] at this
  simpa using this
 rw [List.take_succ_eq_append_getElem h1, h2, List.map_append, List.append_assoc]; rfl
theorem growT_zero (n q : Nat) (s : List Int) (F : Int) : zKS n q s F 0 = grown n q := by simp [zKS]
theorem growT_all {n q : Nat} {s : List Int} {t : Nat} (hs : (allS n)[q]? = some s) (h : (n - zBI 0 s).toNat <= t) : zKS n q s (zBI 0 s) t = grown n (q + 1) := by
 rw [zNS hs]
 unfold zKS extS
 rw [List.take_of_length_le (by rw [zGA]; exact h)]
theorem growT_le {n q : Nat} {s : List Int} {t : Nat} (hs : (allS n)[q]? = some s) : (zKS n q s (zBI 0 s) t).length <= (allS n).length := by
 have h1 : (zKS n q s (zBI 0 s) t).length <= (grown n (q + 1)).length := by
  rw [zNS hs]
  unfold zKS extS
  rw [List.length_append, List.length_append, List.length_map, List.length_map]
  have := List.length_take_le t (upF (zBI 0 s) (n - zBI 0 s).toNat)
  have h3 : ((upF (zBI 0 s) (n - zBI 0 s).toNat).take t).length <= (upF (zBI 0 s) (n - zBI 0 s).toNat).length := List.length_take_le' _ _
  omega
 exact Nat.le_trans h1 (zFC n (q + 1)).length_le
theorem nextFrom_at {s : List Int} {k : Nat} (h : s.length = k + 1) : zBI 0 s = s[k]?.getD 0 + 1 := by
 unfold zBI
 rw [List.getLast?_eq_getElem?, h]
 simp only [Nat.add_sub_cancel]
 rw [List.getElem?_eq_getElem (by omega)]
 rfl
theorem nextFrom_nil : zBI 0 [] = 0 := rfl
theorem nextFrom_le {n : Nat} {s : List Int} (h : zCK n s) : 0 <= zBI 0 s ∧ zBI 0 s <= n := by
 unfold zBI
 cases hs : s.getLast? with
 | none => simp
 | some x =>
   have := h.2 x (List.mem_of_getLast? hs)
   simp only []
   omega
theorem RowS.beside {w1 w3 : World} {base n : Nat} {v u : Value} {l : List Int} {vs : List Value} (h : RowS w1 u l) (h1 : w1.ownsRow base 24 1 v n vs) (hg : w1.grownBy w3 v.ownBlock) : RowS w3 u l := by
 rcases h with ⟨g, c, e, hs⟩ | h
 ·refine .inl ⟨g, c, e, hs.keep (hg.block g hs.lt fun e => ?_)⟩
  obtain ⟨_, c2, hc⟩ := zCD h1 e.symm
  obtain ⟨sp, hs⟩ := hs
  rw [hc] at hs
  cases hs
 ·exact .inr h
theorem tab_nil (w : World) : TabS (w.alloc (.cells #[.slice none 0 0] 24)) w.heap.size (.slice (some ⟨w.heap.size, 0, none⟩) 1 1) [[]] := by
 refine ⟨[.slice none 0 0], ⟨rfl, .inr ⟨w.heap.size, 1, #[.slice none 0 0], rfl, Nat.le_refl _, World.alloc_heap_new _ _, Nat.le_refl _, by decide, rfl, rfl⟩⟩, fun j hj => ?_⟩
 match j, hj with
 | 0, _ => exact ⟨_, rfl, .inr ⟨rfl, none, 0, rfl⟩⟩
theorem r3sets_c (w : World) (n : Nat) (hn : n <= 10) : Calls Tryz.prog 182 #[.int .i64 n] w fun e w' => ∃ v, e = .returned v ∧ TabS w' w.heap.size v (allS n) ∧ Below w.heap.size w w' := by
 have HAL := hid (allS_le hn)
 have HT0 := hid (tab_nil w)
 have HB0 := hid (show Below w.heap.size w (w.alloc (.cells #[.slice none 0 0] 24)) from (Below.refl _ _).alloc (Nat.le_refl _) _)
 have HG0 := hid (show grown n 0 = [[]] by simp [grown])
 have HGD := hid (fun (q : Nat) (h : (grown n q).length <= q) => grown_done h)
 obtain ⟨N, hN⟩ := exq ((allS n).length)
 rw [<- hN] at HAL
 have HN := hid hN
 have hn20 := HAL.out
 clear hN
 go_enter Tryz.func182, Tryz.ntmps182
 go_wp2
 go_loopw [3, 4] (fun v i wr => ∃ q : Nat, q <= N ∧ i = .int .i64 q ∧ TabS wr w.heap.size v (grown n q) ∧ Below w.heap.size w wr) (fun _ i _ => N - (intOf i).toNat)
 case atStart => exact ⟨0, Nat.zero_le _, rfl, by rw [HG0.out]; exact HT0.out, HB0.out⟩
 case round =>
  clear HT0 HB0 HG0
  obtain ⟨wo, hwo⟩ := exq (wr)
  subst hwo
  obtain ⟨q, hq, rfl, ho, hbk⟩ := hrel
  obtain ⟨ln, hln⟩ := exq ((grown n q).length)
  have hle : ln <= N := by rw [hln, HN.out]; exact (zFC n q).length_le
  obtain ⟨la, lc, rfl⟩ : ∃ la lc, u3 = .slice la ln lc := by
   obtain ⟨_, ho1, _⟩ := ho
   obtain ⟨a', c', e⟩ := zAC ho1
   exact ⟨a', c', by rw [e, hln]⟩
  by_cases hlt : q < ln
  ·obtain ⟨g0, lcap, us, e0, hg0, hg0s, hcs, hrs, _, _⟩ := ho.at hln.symm hlt
   cases e0
   have hql : q < (grown n q).length := by rw [<- hln]; exact hlt
   have hget := grown_get hql
   have hgd : (grown n q)[q]?.getD [] = (grown n q)[q] := by rw [List.getElem?_eq_getElem hql]; rfl
   rw [hgd] at hrs
   obtain ⟨s, hs⟩ := exq ((grown n q)[q])
   rw [<- hs] at hget hrs
   have hsm : s ∈ allS n := List.mem_of_getElem? hget
   obtain ⟨hsl, hso⟩ := zPM hsm
   obtain ⟨hF0, hFn⟩ := nextFrom_le hso
   have hso' : ∀ y ∈ s, 0 <= y ∧ y < (n : Int) := fun y hy => hso.2 y hy
   obtain ⟨sa, sc, rfl⟩ := hrs.slice
   have hqN : q < N := by omega
   have HGT := hid (fun (t : Nat) (h : t < (n - zBI 0 s).toNat) => growT_succ (q := q) (s := s) h)
   have HGA := hid (fun (t : Nat) (h : (n - zBI 0 s).toNat <= t) => growT_all hget h)
   have HGL := hid (fun (t : Nat) => growT_le (t := t) hget)
   have HGZ := hid (growT_zero n q s (zBI 0 s))
   have hNA := fun (k : Nat) (h : s.length = k + 1) => nextFrom_at h
   obtain ⟨F, hF⟩ := exq (zBI 0 s)
   rw [<- hF] at hF0 hFn HGT HGA HGL HGZ
   obtain ⟨G, hG⟩ : ∃ G : Nat, (G : Int) = F := ⟨F.toNat, by omega⟩
   obtain ⟨sl, hsl'⟩ : ∃ sl, sl = s.length := ⟨_, rfl⟩
   have hii : zAH wo sa s := by
    obtain ⟨a', n', c', e', _, _, h⟩ := hrs.sl (by unfold maxLen; omega)
    cases e'; exact h
   have hF' : (sl = 0 ∧ G = 0) ∨ (∃ k : Nat, sl = k + 1 ∧ ∃ b off, ∃ y : Int, sa = some ⟨b, off, none⟩ ∧ wo.cell? ⟨b, off + k, none⟩ = some (.int .i64 y) ∧ y + 1 = (G : Int) ∧ 0 <= y ∧ y < 10) := by
    rcases Nat.eq_zero_or_pos sl with h | h
    ·left
     have : s = [] := List.length_eq_zero_iff.1 (by omega)
     refine ⟨h, ?_⟩
     rw [this, nextFrom_nil] at hF
     omega
    ·right
     refine ⟨sl - 1, by omega, ?_⟩
     have hk : s.length = (sl - 1) + 1 := by omega
     obtain ⟨b, off, e, _, hc⟩ := hii (sl - 1) (by omega)
     have h1 := hNA _ hk
     have h2 := hso' (s[sl - 1]?.getD 0) (by rw [List.getElem?_eq_getElem (by omega)]; exact List.getElem_mem _)
     exact ⟨b, off, _, e, hc, by omega, by omega, by omega⟩
   rw [<- hsl'] at hrs hcs
   have HRS := hid hrs
   have HO := hid ho
   have HBK := hid hbk
   have HSL := hid hsl'
   have hG10 : G <= n := by omega
   have hqi : (q : Int) < (ln : Int) := by omega
   have hsl10 : sl <= 10 := by omega
   rw [<- hG] at HGT HGA HGL HGZ
   clear hs hget hgd hsm hsl hso hso' hF0 hFn hNA hF hG hsl' hii hrs ho hbk hln hql hle
   go_upto_if 21 with fail
   go_cut [6] from 9 to 43 (fun v wx => v = .int .i64 G ∧ wx = wo)
   case first =>
    rcases hF' with ⟨rfl, rfl⟩ | ⟨k, rfl, b, off, y, rfl, hc, hy, hy0, hy1⟩
    ·go_wp2
     go_meet
     case rel => exact ⟨rfl, rfl⟩
    ·have hp : ((k + 1 : Nat) : Int) - 1 = (k : Int) := by omega
     have hy2 : IntKind.i64.wrap (y + 1) = (G : Int) := by rw [hy]; exact IntWalk.i64_in _ (by omega)
     go_wp2
     go_meet
     case rel => exact ⟨by first | rfl | (congr 1) | simp_all, rfl⟩
   case rest =>
    obtain ⟨rfl, rfl⟩ := hcut
    clear hF'
    go_wp2
    go_loopw [3, 7] (fun v i wr => ∃ t : Nat, G + t <= n ∧ i = .int .i64 ((G + t : Nat) : Int) ∧ TabS wr w.heap.size v (zKS n q s G t) ∧ RowS wr (.slice sa sl sc) s ∧ Below w.heap.size w wr) (fun _ i _ => n - (intOf i).toNat)
    case atStart => exact ⟨0, by omega, by simp, by rw [HGZ.out]; exact HO.out, HRS.out, HBK.out⟩
    case round =>
     obtain ⟨t, ht, rfl, hT, hR, hbt⟩ := hrel
     by_cases hlt2 : G + t < n
     ·have hgs := HGT.out t (by omega)
      have hgl := HGL.out t
      rw [show (G : Int) + (t : Int) = ((G + t : Nat) : Int) by omega] at hgs
      obtain ⟨J, hJ⟩ := exq (G + t)
      rw [<- hJ] at hgs ⊢
      have hJn : J < n := by omega
      have HJ := hid hJ
      obtain ⟨T, hTe⟩ := exq (zKS n q s G t)
      rw [<- hTe] at hgs hgl hT
      rw [<- HN.out] at hgl
      obtain ⟨tl, htl⟩ := exq (T.length)
      rw [<- htl] at hgl
      obtain ⟨va, vc, rfl⟩ : ∃ la lc, u3 = .slice la tl lc := by
       obtain ⟨_, ho1, _⟩ := hT
       obtain ⟨a', c', e⟩ := zAC ho1
       exact ⟨a', c', by rw [e, htl]⟩
      have hii : zAH wr sa s := by
       obtain ⟨a', n', c', e', _, _, h⟩ := hR.sl (by rw [<- HSL.out]; unfold maxLen; omega)
       cases e'; exact h
      have hwa : Below wr.heap.size wr (wr.alloc (.cells #[] 3)) := (Below.refl _ _).alloc (Nat.le_refl _) _
      have M0 := World.ownsRow_made (base := wr.heap.size) (e := 3) (size := 1) wr #[] 0 (Nat.le_refl _) (Nat.zero_le _) rfl
      have HM0 := hid M0
      have HI0 := hid (hii.below hwa)
      have HT := hid hT
      have HR := hid hR
      have HBT := hid hbt
      have HGS := hid hgs
      have HTL := hid htl
      have M1 := hid (show 0 + sl <= maxLen by unfold maxLen; omega)
      have M2 := hid (show (0 + sl) * 8 <= 140737488355328 by omega)
      have M4 := hid (show sl + 1 <= maxLen by unfold maxLen; omega)
      have M5 := hid (show (sl + 1) * 8 <= 140737488355328 by omega)
      have M6 := hid (show tl + 1 <= maxLen by unfold maxLen; omega)
      have M7 := hid (show (tl + 1) * 24 <= 140737488355328 by omega)
      have h1c : ∀ u ∈ s.map (Value.int .i64), u.oneCell' = true := fun u hu => by
       obtain ⟨x, _, rfl⟩ := List.mem_map.1 hu; rfl
      have H1C := hid h1c
      have HLs := hid (show (s.map (Value.int .i64)).length = sl * 1 by rw [List.length_map, Nat.mul_one]; exact HSL.out.symm)
      have HNone := hid (show sa = none -> sl = 0 from fun e => by rw [HSL.out]; exact zMK HI0.out e)
      have HA0 := hid hwa
      clear hwa M0 hii hT hR hbt hgs htl hJ hTe h1c
      go_wp2_with (at_builtin; refine zAJ _ rfl (.tmp 36) (.tmp 37) 24 rfl wr.heap.size 3 (.int .i64 0) 1 8 Tryz.underlying24 zDP rfl Nat.one_pos (.slice (some ⟨wr.heap.size, 0, none⟩) 0 0) 0 [] rfl HM0.out sa sl sc (s.map (Value.int .i64)) rfl HLs.out HNone.out (zML HI0.out) H1C.out M1.out M2.out (zBL _ _) ?_; refine Stop.of ?_)
      refine Stop.go ?_
      intro a1 c1 w1 own1 g1
      have hb1 : Below wr.heap.size wr w1 := HA0.out.grown g1 (zBL _ _) fun k hk => (zCD HM0.out hk).1
      have hb1a : Below wr.heap.size wr (w1.alloc (.cells #[.int .i64 J] 3)) := hb1.alloc hb1.size _
      have HO1 := hid (zBJ own1 ((Below.refl _ w1).alloc (Nat.le_refl _) (.cells #[.int .i64 J] 3)))
      have HB1 := hid hb1a
      have M8 := hid hb1a.size
      clear own1 g1 hb1 hb1a
      go_wp2_with (at_builtin; refine zAJ _ rfl (.tmp 38) (.tmp 40) 24 rfl wr.heap.size 3 (.int .i64 0) 1 8 Tryz.underlying24 zDP rfl Nat.one_pos (.slice a1 sl c1) sl _ rfl HO1.out (some ⟨w1.heap.size, 0, none⟩) 1 1 [.int .i64 J] rfl rfl zBN (zBH w1 _ _) (zDZ _) M4.out M5.out M8.out ?_; refine Stop.of ?_)
      refine Stop.go ?_
      intro a2 c2 w2 own2 g2
      have hrow : RowS w2 (.slice a2 (sl + 1) c2) (s ++ [((J : Nat) : Int)]) := by
       refine zOO (b0 := wr.heap.size) (n := sl + 1) ?_ (by rw [List.length_append, HSL.out]; rfl)
       rw [List.map_append]; exact own2
      have hb2 : Below wr.heap.size wr w2 := HB1.out.grown g2 M8.out fun k hk => (zCD HO1.out hk).1
      have hb2a : Below wr.heap.size wr (w2.alloc (.cells #[.slice a2 (sl + 1) c2] 24)) := hb2.alloc hb2.size _
      have hT2 := HT.out.below hb2a
      obtain ⟨vs, hv1, hv2⟩ := hT2
      have hv1' := hv1
      rw [<- HTL.out] at hv1'
      have HV1 := hid hv1
      have HV1' := hid hv1'
      have HV2 := hid hv2
      have HRW := hid (hrow.below ((Below.refl _ w2).alloc (Nat.le_refl _) (.cells #[.slice a2 (sl + 1) c2] 24)))
      have HR2 := hid (HR.out.below hb2a)
      have HBF := hid (zAA HBT.out hb2a)
      have M9 := hid HBF.out.size
      clear own2 g2 hrow hb2 hb2a hv1 hv1' hv2
      go_wp2_with (at_builtin; refine zAJ _ rfl (.tmp 35) (.tmp 42) 22 rfl w.heap.size 24 (.slice none 0 0) 1 24 Tryz.underlying22 zID rfl Nat.one_pos (.slice va tl vc) tl vs rfl HV1'.out (some ⟨w2.heap.size, 0, none⟩) 1 1 [.slice a2 (sl + 1) c2] rfl rfl zBN (zBH w2 _ _) (zCM _ _ _) M6.out M7.out M9.out ?_; refine Stop.of ?_)
      refine Stop.go ?_
      intro a3 c3 w3 own3 g3
      have hT3 : TabS w3 w.heap.size (.slice a3 (tl + 1) c3) (T ++ [s ++ [((J : Nat) : Int)]]) := TabS.snoc HV1.out HV2.out (Below.refl _ _) HRW.out g3 (by rw [<- HTL.out]; exact own3)
      rw [<- HGS.out] at hT3
      have hR3 := HR2.out.beside HV1'.out g3
      have hB3 : Below w.heap.size w w3 := HBF.out.grown g3 M9.out fun k hk => (zCD HV1'.out hk).1
      have hJe : J + 1 = G + (t + 1) := by have := HJ.out; omega
      have HJE := hid hJe
      clear own3 g3 hJe
      go_wp2
      refine ⟨⟨t + 1, by have := HJ.out; omega, by rw [<- HJE.out]; go_num, hT3, hR3, hB3⟩, by simp [intOf]; omega⟩
     ·have hall := HGA.out t (by omega)
      rw [hall] at hT
      have HT := hid hT
      have HB := hid hbt
      clear hall hT hR hbt
      go_wp2
      exact ⟨⟨q + 1, by omega, by go_num, HT.out, HB.out⟩, by simp [intOf]; omega⟩
  ·have hfin := HGD.out q (by omega)
   rw [hfin] at ho
   have HO := hid ho
   have HB := hid hbk
   clear hfin ho hbk hln
   go_wp2
   go_ret
   exact ⟨_, rfl, HO.out, HB.out⟩
end
section
open Go.RowKit
theorem zHN : (Tryz.prog.info? 73).map (fun i => (i.zero, i.size, i.bytes)) = some (some (.agg #[.slice none 0 0, .slice none 0 0]), 2, 48) := by kernel_rfl
def zKA (W : World) (base : Nat) (v : Value) (T : List FitT) : Prop :=
 ∃ xs, W.ownsRow base 73 2 v T.length xs ∧ ∀ j (hj : j < T.length), ∃ us ur, xs[j * 2]? = some us ∧ xs[j * 2 + 1]? = some ur ∧ zGK 3 W base (fun _ => True) us T[j].1 ∧ zEB W base ur T[j].2
theorem zKA.nil (W : World) (base : Nat) : zKA W base (.slice none 0 0) [] := ⟨[], World.ownsRow_nil _ _ _ _, fun j hj => by simp at hj⟩
theorem zKA.below {W W' : World} {base : Nat} {v : Value} {T : List FitT} (h : zKA W base v T) (hb : Below W.heap.size W W') : zKA W' base v T := by
 obtain ⟨xs, ho, he⟩ := h
 refine ⟨xs, zBJ ho hb, fun j hj => ?_⟩
 obtain ⟨us, ur, h1, h2, h3, h4⟩ := he j hj
 exact ⟨us, ur, h1, h2, h3.keep (Keep.of_below hb : Keep (fun _ => True) _ _) (fun _ _ _ _ => trivial), h4.below hb⟩
def zEX (w : World) (a : Option Addr) (T : List FitT) : Prop :=
 ∀ j (hj : j < T.length), ∃ b off pa pn pc va vn vc, a = some ⟨b, off, none⟩ ∧ b < w.heap.size ∧ w.cell? ⟨b, off + j * 2, none⟩ = some (.slice pa pn pc) ∧ w.cell? ⟨b, off + j * 2 + 1, none⟩ = some (.slice va vn vc) ∧
   T[j].1.length = pn ∧ pn <= maxLen ∧ zAH w pa T[j].1 ∧ T[j].2.length = vn ∧ vn <= maxLen ∧ zCJ w va T[j].2
theorem zEX.below {w w' : World} {a : Option Addr} {T : List FitT} (h : zEX w a T) (hb : Below w.heap.size w w') : zEX w' a T := by
 intro j hj
 obtain ⟨b, off, pa, pn, pc, va, vn, vc, e, hlt, h0, h1, h2, h3, h4, h5, h6, h7⟩ := h j hj
 exact ⟨b, off, pa, pn, pc, va, vn, vc, e, Nat.lt_of_lt_of_le hlt hb.size, (hb.cell (p := ⟨b, _, none⟩) hlt).trans h0, (hb.cell (p := ⟨b, _, none⟩) hlt).trans h1, h2, h3, h4.below hb, h5, h6, h7.below hb⟩
theorem zKA.reads {W : World} {base : Nat} {v : Value} {T : List FitT} (h : zKA W base v T) : ∃ a cap, v = .slice a T.length cap ∧ T.length <= maxLen ∧ zEX W a T := by
 obtain ⟨xs, ho, he⟩ := h
 rcases ho.2 with ⟨rfl, h0⟩ | ⟨g, cap, cur, rfl, hbg, hgg, hnc, hcm, hsz, htk⟩
 ·exact ⟨none, 0, by rw [h0], by rw [h0]; decide, fun j hj => by omega⟩
 ·refine ⟨_, cap, rfl, by omega, fun j hj => ?_⟩
  obtain ⟨us, ur, h1, h2, h3, h4⟩ := he j hj
  have hc : ∀ i, i < T.length * 2 -> W.cell? ⟨g, i, none⟩ = xs[i]? := fun i hi =>
   World.ownsRow.cellAt (w := W) (base := base) (e := 73) (size := 2) (g := g) (n := T.length) (cap := cap) (xs := xs) ⟨ho.1, .inr ⟨g, cap, cur, rfl, hbg, hgg, hnc, hcm, hsz, htk⟩⟩ i hi
  obtain ⟨sa, sn, sc, rfl, _⟩ := id h3
  obtain ⟨ra, rn, rc, rfl, _⟩ := id h4
  obtain ⟨k1, k2, k3⟩ := h3.ints
  obtain ⟨m1, m2, m3⟩ := h4.rats
  exact ⟨g, 0, sa, sn, sc, ra, rn, rc, rfl, (Array.getElem?_eq_some_iff.1 hgg).1, by rw [Nat.zero_add, hc _ (by omega)]; exact h1, by rw [Nat.zero_add, hc _ (by omega)]; exact h2, k1, k2, k3, m1, m2, m3⟩
theorem zKA.snoc {W w1 w2 : World} {base : Nat} {v v' us ur : Value} {T : List FitT} {t : FitT} {xs : List Value}
 (ho : W.ownsRow base 73 2 v T.length xs) (he : ∀ j (hj : j < T.length), ∃ us ur, xs[j * 2]? = some us ∧ xs[j * 2 + 1]? = some ur ∧ zGK 3 W base (fun _ => True) us T[j].1 ∧ zEB W base ur T[j].2)
 (h1 : zGK 3 W base (fun _ => True) us t.1) (h2 : zEB W base ur t.2)
 (hW1 : Below W.heap.size W w1) (hg : w1.grownBy w2 v.ownBlock) (ho' : w2.ownsRow base 73 2 v' (T.length + 1) (xs ++ [us, ur])) : zKA w2 base v' (T ++ [t]) := by
 have hlen : xs.length = T.length * 2 := ho.1
 have hgb : ∀ (E : TypeId), E ≠ 73 -> ∀ b, (b < base ∨ ∃ c f, W.heap[b]? = some (.cells c E f)) -> b < W.heap.size -> w2.heap[b]? = W.heap[b]? := by
  intro E hE b hty hb
  refine (hg.block b (Nat.lt_of_lt_of_le hb hW1.size) ?_).trans (hW1.block b hb)
  rcases ho.2 with ⟨rfl, _⟩ | ⟨g, cap, cur, rfl, hbg, hgg, _⟩
  ·simp [Value.ownBlock]
  ·intro e
   obtain rfl : b = g := by simpa [Value.ownBlock] using e
   rcases hty with h | ⟨c, f, h⟩
   ·omega
   ·rw [h] at hgg; cases hgg; exact hE rfl
 have hel : ∀ u l, zGK 3 W base (fun _ => True) u l -> zGK 3 w2 base (fun _ => True) u l := by
  intro u l h
  refine h.keep (T := fun b => b < W.heap.size ∧ (b < base ∨ ∃ c f, W.heap[b]? = some (.cells c 3 f))) ⟨hg.os.trans hW1.os, hg.tape.trans hW1.tape, hg.output.trans hW1.output, Nat.le_trans hW1.size hg.size, fun k hk hT => hgb 3 (by decide) k hT.2 hk⟩ fun b _ hb hty => ⟨hb, hty⟩
 have heq : ∀ u l, zEB W base u l -> zEB w2 base u l := by
  intro u l h
  refine h.keep (T := fun b => b < W.heap.size ∧ (b < base ∨ ∃ c f, W.heap[b]? = some (.cells c 29 f))) ⟨hg.os.trans hW1.os, hg.tape.trans hW1.tape, hg.output.trans hW1.output, Nat.le_trans hW1.size hg.size, fun k hk hT => hgb 29 (by decide) k hT.2 hk⟩ fun b hb hty => ⟨hb, hty⟩
 refine ⟨xs ++ [us, ur], by rw [List.length_append]; exact ho', fun j hj => ?_⟩
 by_cases e : j < T.length
 ·obtain ⟨us', ur', k1, k2, k3, k4⟩ := he j e
  refine ⟨us', ur', by rw [List.getElem?_append_left (by omega)]; exact k1, by rw [List.getElem?_append_left (by omega)]; exact k2, ?_, ?_⟩
  ·rw [List.getElem_append_left e]; exact hel _ _ k3
  ·rw [List.getElem_append_left e]; exact heq _ _ k4
 ·have : j = T.length := by simp at hj; omega
  subst this
  refine ⟨us, ur, by rw [List.getElem?_append_right (by omega), hlen]; simp, by rw [List.getElem?_append_right (by omega), hlen, show T.length * 2 + 1 - T.length * 2 = 1 by omega]; rfl, ?_, ?_⟩
  ·simp only [List.getElem_append_right (Nat.le_refl _), Nat.sub_self, List.getElem_cons_zero]; exact hel _ _ h1
  ·simp only [List.getElem_append_right (Nat.le_refl _), Nat.sub_self, List.getElem_cons_zero]; exact heq _ _ h2
def allF (M : Mask) (y : List Int) : List FitT := (allS (zAB M)).filterMap (fitF M y)
theorem zNB {α β : Type} (f : α -> Option β) (l : List α) {k : Nat} (hk : k < l.length) : (l.take (k + 1)).filterMap f = (l.take k).filterMap f ++ (f l[k]).toList := by
 rw [List.take_succ_eq_append_getElem hk, List.filterMap_append]
 first
  | done
  | (congr 1; first | done | (cases h : f l[k] <;> simp [h]))
theorem r4All_c (w : World) (a a2 : Option Addr) (n cap n2 cap2 : Nat) (M : Mask) (y : List Int) (hn : M.length = n) (hn2 : y.length = n2) (hm : n <= maxLen) (hm2 : n2 <= maxLen) (H : zAK w a M) (H2 : zAH w a2 y) (hM : okM M = true) :
 Calls Tryz.prog 157 #[.slice a n cap, .slice a2 n2 cap2] w fun e w' => ∃ v base, e = .returned v ∧ w.heap.size <= base ∧ zKA w' base v (allF M y) ∧ Below w.heap.size w w' := by
 obtain ⟨_, h1, h6, hc1, hc10⟩ := zCP hM
 obtain ⟨b, off, ra, rc, rfl, hb, hc⟩ := zCX H (by omega)
 have i0 : (0 : Int) < (n : Int) := by omega
 have HFT := hid (fun (X : World) (hX : Below w.heap.size w X) (sa : Option Addr) (sn sc : Nat) (S : List Int) (hs : S.length = sn) (hsm : sn <= 1000) (hi : zAH X sa S) => r4fit_c X (some ⟨b, off, none⟩) a2 sa n cap n2 cap2 sn sc M y S hn hn2 hs hm hm2 hsm (H.below hX) (H2.below hX) hi)
 have HST := hid (r3sets_c w (zAB M) hc10)
 have HSL := hid (fun (s : List Int) (hs : s ∈ allS (zAB M)) => (zPM hs).1)
 have HSC := hid (allS_le hc10)
 have HAF := hid (show allF M y = (allS (zAB M)).filterMap (fitF M y) from rfl)
 obtain ⟨R, hR⟩ := exq (allF M y)
 obtain ⟨SS, hSS⟩ := exq (allS (zAB M))
 obtain ⟨W, hW⟩ := exq (zAB M)
 rw [<- hSS] at HST HSL HSC HAF
 rw [<- hR] at HAF ⊢
 rw [<- hW] at HST HSL hc hc10
 clear hn hn2 hm hm2 H H2 hM h1 h6 hc1 hR hSS hW
 go_enter Tryz.func157, Tryz.ntmps157
 go_wp2_with (go_at_call 182; refine HST.out.mono ?_; rintro e w1 ⟨v1, rfl, hT, hb1⟩; refine Stop.of ?_)
 refine Stop.go ?_
 obtain ⟨vs, hvo, _⟩ := id hT
 obtain ⟨ta, tc, rfl⟩ := zAC hvo
 have hTR := hT.rows rfl (fun r hr => by have := HSL.out r hr; unfold maxLen; omega)
 have HTR := hid hTR
 have HB1 := hid hb1
 have hsc := HSC.out
 clear hT hvo hTR hb1 hc hb HST
 go_wp2
 go_loopw [5, 16] (fun v i wr => ∃ k : Nat, k <= SS.length ∧ i = .int .i64 k ∧ zKA wr w1.heap.size v ((SS.take k).filterMap (fitF M y)) ∧ Below w1.heap.size w1 wr) (fun _ i _ => SS.length - (intOf i).toNat)
 case atStart => exact ⟨0, Nat.zero_le _, rfl, zKA.nil _ _, Below.refl _ _⟩
 case round =>
  obtain ⟨k, hk, rfl, ho, hbk⟩ := hrel
  by_cases hlt : k < SS.length
  ·obtain ⟨sb, so, sa, sn, sc, rfl, hsb, hsc', hsn, hsm, hsi⟩ := (HTR.out.below hbk) k hlt
   have hft := zNB (fitF M y) SS hlt
   have hsn10 : sn <= 1000 := by have := HSL.out _ (List.getElem_mem hlt); omega
   obtain ⟨S, hS⟩ := exq (SS[k]'hlt)
   rw [<- hS] at hsn hsi hft
   have hfit := HFT.out wr (zAA HB1.out hbk) sa sn sc S hsn hsn10 hsi
   have hcnt : ((SS.take k).filterMap (fitF M y)).length <= 20000 := by
    have h1 := List.length_filterMap_le (fitF M y) (SS.take k)
    rw [List.length_take] at h1; omega
   obtain ⟨C, hC⟩ := exq ((SS.take k).filterMap (fitF M y))
   rw [<- hC] at ho hft hcnt
   have HFI := hid hfit
   have HFT2 := hid hft
   have HO := hid ho
   have HBK := hid hbk
   have HCN := hid hcnt
   have hki : (k : Int) < (SS.length : Int) := by omega
   have hki0 : (0 : Int) <= (k : Int) := by omega
   clear hfit hft ho hbk hcnt hS hC hsn hsm hsi
   go_wp2_with (go_at_call 116; refine HFI.out.mono ?_; rintro e w2 ⟨⟨hno, rfl⟩ | ⟨f, us, ur, hf, rfl, hu, hr⟩, hb2⟩ <;> refine Stop.of ?_)
   ·refine Stop.go ?_
    have hft2 := HFT2.out
    rw [hno] at hft2
    simp only [Option.toList_none, List.append_nil] at hft2
    have HF2 := hid hft2
    have hba : ∀ o : Obj, Below wr.heap.size wr (w2.alloc o) := fun o => hb2.alloc hb2.size o
    have HBA := hid hba
    clear hno hft2 hba hb2
    go_wp2
    refine ⟨⟨k + 1, by omega, by go_num, ?_, zAA HBK.out (HBA.out _)⟩, by simp [intOf]; omega⟩
    rw [HF2.out]; exact HO.out.below (HBA.out _)
   ·refine Stop.go ?_
    have hft2 := HFT2.out
    rw [hf] at hft2
    simp only [Option.toList_some] at hft2
    obtain ⟨pa, pn, pc, rfl, _⟩ := id (hu 0)
    obtain ⟨qa, qn, qc, rfl, _⟩ := id (hr 0)
    have hba : Below w2.heap.size w2 (w2.alloc (.cells #[.slice pa pn pc, .slice qa qn qc] 73)) := (Below.refl _ _).alloc (Nat.le_refl _) _
    have hFO := HO.out.below (zAA hb2 hba)
    obtain ⟨xs, hoo, hoe⟩ := hFO
    obtain ⟨va, vc, rfl⟩ := zAC hoo
    have hEI := (hu w1.heap.size).keep (Keep.of_below hba : Keep (fun _ => True) _ _) (fun _ _ _ _ => trivial)
    have hEQ := (hr w1.heap.size).below hba
    have HF2 := hid hft2
    have HOO := hid hoo
    have HOE := hid hoe
    have HEI := hid hEI
    have HEQ := hid hEQ
    have hBW := zAA HBK.out (zAA hb2 hba)
    have HBW := hid hBW
    have hnw := news2 (w2.alloc (.cells #[.slice pa pn pc, .slice qa qn qc] 73)) (.slice pa pn pc) (.slice qa qn qc) 73
    rw [World.size_alloc] at hnw
    have HNW := hid hnw
    have M1 := hid (show C.length + 1 <= maxLen by have := HCN.out; unfold maxLen; omega)
    have M2 := hid (show (C.length + 1) * 48 <= 140737488355328 by have := HCN.out; omega)
    have M3 := hid (Nat.le_trans hBW.size (zBL _ (.cells #[.slice pa pn pc, .slice qa qn qc] 73)))
    have HONE := hid (show ∀ u ∈ [Value.slice pa pn pc, .slice qa qn qc], u.oneCell' = true from fun u hu => by simp at hu; rcases hu with rfl | rfl <;> rfl)
    clear hf hft2 hba hoo hoe hEI hEQ hBW hnw hu hr hb2
    go_wp2_with (at_builtin; refine zAJ _ rfl (.tmp 28) (.tmp 30) 87 rfl w1.heap.size 73 (.agg #[.slice none 0 0, .slice none 0 0]) 2 48 Tryz.underlying87 zHN rfl (by decide) (.slice va C.length vc) C.length xs rfl (HOO.out.alloc _) (some ⟨w2.heap.size + 1, 0, none⟩) 1 1 [.slice pa pn pc, .slice qa qn qc] rfl rfl zBN HNW.out HONE.out M1.out M2.out M3.out ?_; intro a9 c9 w9 own9 g9; refine Stop.of ?_)
    refine Stop.go ?_
    have hsn := zKA.snoc (t := f) HOO.out HOE.out HEI.out HEQ.out ((Below.refl _ _).alloc (Nat.le_refl _) _) g9 own9
    have hB9 : Below w1.heap.size w1 w9 := (HBW.out.alloc HBW.out.size _).grown g9 M3.out (fun g hg => (HOO.out.lt g hg).1)
    rw [<- HF2.out] at hsn
    have HSN := hid hsn
    have HB9 := hid hB9
    clear hsn hB9 own9 g9
    go_wp2
    exact ⟨⟨k + 1, by omega, by go_num, HSN.out, HB9.out⟩, by simp [intOf]; omega⟩
  ·obtain rfl : k = SS.length := by omega
   rw [List.take_of_length_le (Nat.le_refl _), <- HAF.out] at ho
   have HO := hid ho
   have HBK := hid hbk
   clear ho hbk
   go_wp2
   go_ret
   exact ⟨_, w1.heap.size, rfl, HB1.out.size, HO.out, zAA HB1.out HBK.out⟩
end
section
theorem denP_pos {x : List Rt} (h : ∀ k, 0 < (zAE x k).2) : ∀ k, 0 < denP x k
 | 0 => by show (0 : Int) < 1; decide
 | k + 1 => Int.mul_pos (denP_pos h k) (h k)
theorem solve_of {M : List (List Int)} {n : Nat} (h : MaskOk M n) {y : List Int} (hy : y.length = M.length) (hmil : ∀ v ∈ y, -1000000 <= v ∧ v <= 1000000) (hr : zFG M n = n)
 {l : Nat -> Int} {D : Int} (hD : D ≠ 0) (hl : ∀ q, q < M.length -> sm (fun i => rowv M q i * l i) n = vec y q * D) :
 (zAW (zAI M y) n).2 = 0 ∧ (zAW (zAI M y) n).1.length = n ∧ ∀ k, k < n -> (zAE (zAW (zAI M y) n).1 k).1 * D = l k * (zAE (zAW (zAI M y) n).1 k).2 ∧ 0 < (zAE (zAW (zAI M y) n).1 k).2 ∧ (zAE (zAW (zAI M y) n).1 k).2 <= 288 ∧ Int.gcd (zAE (zAW (zAI M y) n).1 k).1 (zAE (zAW (zAI M y) n).1 k).2 = 1 := by
 have hY := h.addY hy (Y := 1000000) (by decide) (by simpa using hmil)
 have hi := zCI (zAI M y) hY.wid n (fun j hj q => zCC (by decide) (fun r hr => hY.one r hr j hj) q)
 have hpiv := zLJ h hy hY
 have hJl : (pRed (zAI M y) n).2.length = n := by rw [hpiv]; exact hr
 have hasc : (pRed (zAI M y) n).2 = List.range' 0 n := zLG hi.asc (fun x hx => by have := hi.lt x hx; omega) hJl
 have hjf : ∀ k, k < n -> jf (pRed (zAI M y) n).2 k = k := fun k hk => by
  rw [hasc]; unfold jf; rw [List.getElem?_range' hk]; simp
 have hlen : (zAI M y).length = M.length := zDV hy
 have hdot : ∀ u, Sp (RB (zAI M y).length (rowv (zAI M y))) u -> dotS u (fun c => if c < n then l c else -D) (n + 1) = 0 := by
  intro u hu
  refine zPD ?_ hu
  rintro v ⟨q, hq, rfl⟩
  rw [hlen] at hq
  unfold dotS
  rw [zLP, zAO (g := fun i => rowv M q i * l i) (fun c hc => by simp only [if_pos hc]; rw [zGR h hy hq, if_pos hc]), hl q hq]
  simp only [Nat.lt_irrefl, if_false]
  rw [zGR h hy hq, if_neg (by omega), if_pos rfl]
  rw [Int.mul_neg]; omega
 have hsp1 := hi.sp1
 rw [<- hlen] at hy
 -- the rows behind the pivots
 have h0 : ∀ q, n <= q -> q < (zAI M y).length -> rowv (pRed (zAI M y) n).1 q n = 0 := by
  intro q h1 h2
  have hd := hdot _ (hsp1 q h2)
  unfold dotS at hd
  rw [zLP, zAO (g := fun _ => 0) (fun c hc => by simp only [if_pos hc]; rw [hi.zero q (by omega) h2 c hc]; simp), zGB] at hd
  simp only [Nat.lt_irrefl, if_false] at hd
  rcases Int.mul_eq_zero.1 (show rowv (pRed (zAI M y) n).1 q n * -D = 0 by omega) with e | e
  ·exact e
  ·omega
 have hpl := zFB (zAI M y) n
 have hany : ((pRed (zAI M y) n).1.drop (pRed (zAI M y) n).2.length).any (nz n) = false := by
  rw [List.any_eq_false]
  intro r hr2
  obtain ⟨i, hilt, rfl⟩ := List.mem_iff_getElem.1 hr2
  rw [List.getElem_drop]
  rw [List.length_drop] at hilt
  have := h0 ((pRed (zAI M y) n).2.length + i) (by omega) (by omega)
  rw [zGC (by omega)] at this
  simpa [nz] using this
 have hs : zAW (zAI M y) n = ((List.range n).map fun k => ofF (vec ((pRed (zAI M y) n).1[k]?.getD []) n) (vec ((pRed (zAI M y) n).1[k]?.getD []) (jf (pRed (zAI M y) n).2 k)), 0) := by
  unfold zAW
  simp only []
  rw [if_neg (by rw [hany]; simp), if_neg (by omega)]
 rw [hs]
 refine ⟨rfl, by simp, fun k hk => ?_⟩
 have hk' : k < (pRed (zAI M y) n).2.length := by omega
 have hb := hi.piv_288 (by rw [zDV (by omega)]; exact h.le6) (fun x hx r => zCC (by decide) (fun r hr => hY.one r hr x (hi.lt x hx)) r) hk'
 have e1 : zAE ((List.range n).map fun k => ofF (vec ((pRed (zAI M y) n).1[k]?.getD []) n) (vec ((pRed (zAI M y) n).1[k]?.getD []) (jf (pRed (zAI M y) n).2 k))) k = ofF (rowv (pRed (zAI M y) n).1 k n) (rowv (pRed (zAI M y) n).1 k (jf (pRed (zAI M y) n).2 k)) := by
  unfold zAE
  rw [List.getElem?_map, List.getElem?_range hk]; rfl
 rw [e1, zMC hb.1]
 have hd := hdot _ (hsp1 k (Nat.lt_of_lt_of_le hk' hi.K_le))
 unfold dotS at hd
 rw [zLP, zDY hk (fun c hc hne => ?_)] at hd
 ·simp only [if_pos hk, Nat.lt_irrefl, if_false] at hd
  have hjk := hjf k hk
  rw [hjk] at hb ⊢
  obtain ⟨c1, c2, c3, c4, c5⟩ := zDD (a := rowv (pRed (zAI M y) n).1 k n) hb.1
  refine ⟨?_, c1, by omega, c4⟩
  generalize rowv (pRed (zAI M y) n).1 k k = b at *
  generalize rowv (pRed (zAI M y) n).1 k n = a at *
  generalize zAY a b = p at *
  obtain ⟨b1, b2⟩ := p
  dsimp only at *
  have e2 : b * (b1 * D) = b * (l k * b2) := by
   have : b * (b1 * D) = (b1 * b) * D := by grind
   rw [this, c5]
   have hd' : b * l k = a * D := by rw [Int.mul_neg] at hd; omega
   have : b * (l k * b2) = (b * l k) * b2 := by grind
   rw [this, hd']; grind
  exact Int.eq_of_mul_eq_mul_left (by omega) e2
 ·simp only [if_pos hc]
  have hc' : c < (pRed (zAI M y) n).2.length := by omega
  have := hi.ech.red.off k hk' c hc' (fun e => hne e.symm)
  rw [hjf c hc] at this
  rw [this]; simp
theorem solve_to {M : List (List Int)} {n : Nat} (h : MaskOk M n) {y : List Int} (hy : y.length = M.length) (hmil : ∀ v ∈ y, -1000000 <= v ∧ v <= 1000000) (he : (zAW (zAI M y) n).2 = 0) :
 zFG M n = n ∧ ∃ (l : Nat -> Int) (D : Int), 0 < D ∧ (∀ q, q < M.length -> sm (fun i => rowv M q i * l i) n = vec y q * D) ∧ ∀ k, k < n -> (zAE (zAW (zAI M y) n).1 k).1 * D = l k * (zAE (zAW (zAI M y) n).1 k).2 := by
 have hY := h.addY hy (Y := 1000000) (by decide) (by simpa using hmil)
 have hi := zCI (zAI M y) hY.wid n (fun j hj q => zCC (by decide) (fun r hr => hY.one r hr j hj) q)
 have hpiv := zLJ h hy hY
 have hle := zOC (a := 0) (b := n) hi.asc (fun x hx => ⟨Nat.zero_le _, hi.lt x hx⟩)
 have hge : n <= (pRed (zAI M y) n).2.length := by
  unfold zAW at he
  simp only [] at he
  split at he
  ·simp at he
  ·split at he
   ·simp at he
   ·omega
 have hr : zFG M n = n := by
  have : zFG M n = (pRed (zAI M y) n).2.length := by rw [hpiv]; rfl
  omega
 have hss := zNG hY
 have hn : n ∉ (rRed (zAI M y) (n + 1)).piv := by
  intro hm
  rw [hss] at he
  unfold zNH zBM at he
  simp only [] at he
  rw [if_pos hm] at he
  simp at he
 have hsv : (zAW (zAI M y) n).1 = (zBM (zAI M y) n).1 := by
  rw [hss] at he ⊢
  unfold zNH at he ⊢
  simp only [] at he ⊢
  split at he
  ·simp at he
  ·rename_i h1
   split at he
   ·simp at he
   ·rename_i h2
    rw [if_neg h1, if_neg h2]
 obtain ⟨_, hpos⟩ := zKG hY (Nat.le_refl _) hn
 refine ⟨hr, numP (zBM (zAI M y) n).1 n, denP (zBM (zAI M y) n).1 n, denP_pos hpos n, fun q hq => ?_, fun k hk => ?_⟩
 ·have := solved_row hY (Nat.le_refl _) hn (RB.sp (K := (zAI M y).length) (R := rowv (zAI M y)) (k := q) (by rw [zDV hy]; exact hq))
  rw [zAO (g := fun i => rowv M q i * numP (zBM (zAI M y) n).1 n i) (fun c hc => by rw [zGR h hy hq, if_pos hc]), zGR h hy hq, if_neg (by omega), if_pos rfl] at this
  exact this
 ·rw [hsv]
  have := numP_eq (x := (zBM (zAI M y) n).1) (W := n) hk
  omega
end
section
structure Circ (M : List (List Int)) (n : Nat) (c : List Int) : Prop where
 len : c.length = n
 ker : zEA M n (vec c)
 prim : Prim (vec c)
 pos : 0 < zCG c
 least : ∀ v, zEA M n v -> (∀ j, j < n -> vec c j = 0 -> v j = 0) -> (∃ j, j < n ∧ v j ≠ 0) -> ∀ j, j < n -> vec c j ≠ 0 -> v j ≠ 0
theorem zHQ : ∀ (l : List Int), zCG l ≠ 0 -> ∃ j, j < l.length ∧ vec l j = zCG l ∧ ∀ i, i < j -> vec l i = 0
 | [], h => by simp [zCG] at h
 | x :: l, h => by
   by_cases e : x = 0
   ·have h1 : zCG (x :: l) = zCG l := by show (if x = 0 then zCG l else x) = _; rw [if_pos e]
    rw [h1] at h ⊢
    obtain ⟨j, hj, h2, h3⟩ := zHQ l h
    refine ⟨j + 1, by simp; omega, by rw [<- h2]; simp [vec], fun i hi => ?_⟩
    cases i with
    | zero => simp [vec, e]
    | succ i => have := h3 i (by omega); simpa [vec] using this
   ·have h1 : zCG (x :: l) = x := by show (if x = 0 then zCG l else x) = _; rw [if_neg e]
    rw [h1]
    exact ⟨0, by simp, by simp [vec], fun i hi => by omega⟩
theorem zNV : ∀ (l : List Int) (j : Nat), vec l j ≠ 0 -> (∀ i, i < j -> vec l i = 0) -> zCG l = vec l j
 | [], j, h, _ => by simp [vec] at h
 | x :: l, 0, h, _ => by
   have hx : x ≠ 0 := by simpa [vec] using h
   show (if x = 0 then zCG l else x) = _
   rw [if_neg hx]; simp [vec]
 | x :: l, j + 1, h, h0 => by
   have hx : x = 0 := by have := h0 0 (by omega); simpa [vec] using this
   show (if x = 0 then zCG l else x) = _
   rw [if_pos hx, zNV l j (by simpa [vec] using h) (fun i hi => by have := h0 (i + 1) (by omega); simpa [vec] using this)]
   simp [vec]
theorem vec_ext {l m : List Int} (hl : l.length = m.length) (h : ∀ j, vec l j = vec m j) : l = m :=
 List.ext_getElem hl fun j h1 h2 => by have := h j; rwa [zCS h1, zCS h2] at this
theorem zEA.lin {M : List (List Int)} {n : Nat} {u v : Vec} (hu : zEA M n u) (hv : zEA M n v) (x y : Int) : zEA M n (fun c => x * u c + y * v c) := by
 intro q hq
 have h1 := hu q hq
 have h2 := hv q hq
 unfold dotS at *
 rw [zAO (g := fun c => x * (rowv M q c * u c) + y * (rowv M q c * v c)) (fun c _ => by grind), zKI, zDN, zDN, h1, h2]; simp
theorem Circ.one {M : List (List Int)} {n : Nat} {c d : List Int} (hc : Circ M n c) (hd : Circ M n d) (hs : ∀ j, j < n -> vec c j = 0 -> vec d j = 0) : c = d := by
 obtain ⟨j0, hj0, e0, z0⟩ := zHQ d (by have := hd.pos; omega)
 rw [hd.len] at hj0
 have hd0 : vec d j0 ≠ 0 := by have := hd.pos; omega
 have hcd := hc.least _ hd.ker hs ⟨j0, hj0, hd0⟩
 -- same support
 have hc0 : vec c j0 ≠ 0 := fun e => hd0 (hs j0 hj0 e)
 have zc : ∀ i, i < j0 -> vec c i = 0 := fun i hi => Classical.byContradiction fun h => hcd i (by omega) h (z0 i hi)
 have ec := zNV c j0 hc0 zc
 have hk : ∀ j, vec d j0 * vec c j = vec c j0 * vec d j := by
  intro j
  rcases Nat.lt_or_ge j n with hj | hj
  ·refine Classical.byContradiction fun hne => ?_
   have hv := hc.ker.lin hd.ker (vec d j0) (-(vec c j0))
   have := hc.least _ hv (fun i hi h => by rw [h, hs i hi h]; simp) ⟨j, hj, fun h => hne (by rw [Int.neg_mul] at h; omega)⟩ j0 hj0 hc0
   refine this ?_
   rw [Int.neg_mul, Int.mul_comm]; omega
  ·rw [zFK (l := c) (c := j) (by rw [hc.len]; exact hj), zFK (l := d) (c := j) (by rw [hd.len]; exact hj)]; simp
 refine vec_ext (by rw [hc.len, hd.len]) fun j => prim_eq (x := vec d j0) (y := vec c j0) ?_ ?_ hk hc.prim hd.prim j
 ·have := hd.pos; omega
 ·have := hc.pos; omega
theorem zJY {M : List (List Int)} {n : Nat} (h : MaskOk M n) {S c : List Int} (hS : zCK n S) (hne : S ≠ []) (hc : zGO M n S = some c) : Circ M n c := by
 obtain ⟨f1, f2, _, f4, f5⟩ := zOA h hS hne hc
 refine ⟨f1, f2, f4, f5, fun v hv h0 hn j hj hcj => ?_⟩
 refine circ_least h hS hc hv (fun i hi hm => h0 i hi ?_) hn j ((zJK h hS hc j).1 hcj)
 exact Classical.byContradiction fun e => hm ((zJK h hS hc i).1 e)
theorem comb_nodup0 {n : Nat} {S : List Int} (hS : zCK n S) : S.length <= n := by
 rcases Nat.lt_or_ge n S.length with h | h
 ·have h1 := zJI n 0 S hS.1 (fun y hy => by have := hS.2 y hy; omega)
  rw [zEU n S.length 0 h] at h1
  simp at h1
 ·exact h
theorem circP_iff {M : List (List Int)} {n : Nat} (h : MaskOk M n) {c : List Int} : c ∈ circP M n ↔ Circ M n c := by
 rw [circP_mem]
 constructor
 ·rintro ⟨k, S, hk, hS, hc⟩
  have hl := zCV _ _ _ S hS
  exact zJY h (comb_ok hS) (fun e => by rw [e] at hl; simp at hl) hc
 ·intro hc
  obtain ⟨j0, hj0, e0, _⟩ := zHQ c (by have := hc.pos; omega)
  rw [hc.len] at hj0
  obtain ⟨S, d, hS, _, hne, hsub, hd⟩ := zMV h _ (vec c) rfl hc.ker ⟨j0, hj0, by have := hc.pos; omega⟩
  have hD := zJY h hS hne hd
  have e := hc.one hD (fun j hj hz => Classical.byContradiction fun hn => by
   have := hsub _ ((zJK h hS hd j).1 hn)
   exact (zCL.1 this).2 hz)
  subst e
  obtain ⟨k, hk⟩ : ∃ k, S.length = k + 1 := ⟨S.length - 1, by have := List.length_pos_iff.2 hne; omega⟩
  have h1 : ¬ zFG M n + 1 < S.length := fun hlt => by rw [circ1_many h hlt] at hd; cases hd
  have h2 : S.length <= n := by
   have := (comb_nodup0 hS)
   exact this
  have h3 := zJI n 0 S hS.1 (fun y hy => by have := hS.2 y hy; omega)
  rw [hk] at h3
  exact ⟨k, S, by omega, h3, hd⟩
theorem zHS : ∀ (m k : Nat) (a : Int), (comb m k a).Nodup
 | _, 0, _ => by unfold comb; simp
 | 0, _ + 1, _ => by unfold comb; simp
 | m + 1, k + 1, a => by
   unfold comb
   rw [List.nodup_append]
   refine ⟨?_, zHS m (k + 1) (a + 1), ?_⟩
   ·unfold List.Nodup
    rw [List.pairwise_map]
    exact (zHS m k (a + 1)).imp fun h e => h (by simpa using e)
   ·rintro x hx y hy rfl
    obtain ⟨z, _, rfl⟩ := List.mem_map.1 hx
    have := (zJJ _ _ _ _ hy).2 a (by simp)
    omega
end
end Go.Proofs.YtlffndehhhpgjaaGreat
