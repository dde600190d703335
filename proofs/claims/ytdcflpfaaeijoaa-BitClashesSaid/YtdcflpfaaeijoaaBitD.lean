/- Walks of package bit and of its reference: sums of rows times pictures, fitting. -/
import Derived.Test.YtdcflpfaaeijoaaBitC
namespace Go.Proofs.Ytdcflpfaaeijoaa
open Go.RowKit
set_option linter.unusedVariables false

/-- the sum of a row times a picture, as Go's ints give it, of the first k numbers -/
def dotTo (row x : List Int) : Nat → Int
  | 0 => 0
  | k + 1 => wrap64 (dotTo row x k + wrap64 (row[k]?.getD 0 * x[k]?.getD 0))
def dotW (row x : List Int) : Int := dotTo row x row.length

theorem sum_c (w : World) (a a2 : Option Addr) (n cap n2 cap2 : Nat) (row x : List Int) (hn : row.length = n) (hn2 : x.length = n2) (hle : n ≤ n2) (hm : n ≤ maxLen) (H : IntsAt w a row) (H2 : IntsAt w a2 x) :
    Calls Try.prog 54 #[.slice a n cap, .slice a2 n2 cap2] w fun e w' => e = .returned (.int .i64 (dotW row x)) ∧ w = w' := by
  have HN := hid hn
  have HN2 := hid hn2
  have HH := hid H
  have HH2 := hid H2
  clear hn hn2 H H2
  unfold maxLen at hm
  go_enter Try.func54, Try.ntmps54
  go_wp2
  go_loop [5, 10] (fun s i => ∃ k : Nat, k ≤ n ∧ i = .int .i64 k ∧ s = .int .i64 (dotTo row x k)) (fun _ i => n - (intOf i).toNat)
  case atStart => exact ⟨0, Nat.zero_le _, rfl, rfl⟩
  case round =>
    obtain ⟨k, hk, rfl, rfl⟩ := hrel
    by_cases hlt : k < n
    · obtain ⟨b, off, rfl, _, h1⟩ := HH.out k (by rw [HN.out]; exact hlt)
      obtain ⟨b2, off2, rfl, _, h2⟩ := HH2.out k (by rw [HN2.out]; omega)
      have h3 : k < n2 := by omega
      go_wp2
      go_round
      case rel => exact ⟨k + 1, by omega, by go_num, rfl⟩
      case measure => simp [intOf]; omega
    · have : k = n := by omega
      subst this
      go_wp2
      go_ret
      refine ⟨ret_int ?_, rfl⟩
      unfold dotW; rw [HN.out]

theorem refSum_c (w : World) (a a2 : Option Addr) (n cap n2 cap2 : Nat) (row x : List Int) (hn : row.length = n) (hn2 : x.length = n2) (hle : n ≤ n2) (hm : n ≤ maxLen) (H : IntsAt w a row) (H2 : IntsAt w a2 x) :
    Calls Try.prog 57 #[.slice a n cap, .slice a2 n2 cap2] w fun e w' => e = .returned (.int .i64 (dotW row x)) ∧ w = w' := by
  have HN := hid hn
  have HN2 := hid hn2
  have HH := hid H
  have HH2 := hid H2
  clear hn hn2 H H2
  unfold maxLen at hm
  go_enter Try.func57, Try.ntmps57
  go_wp2
  go_loop [5, 10] (fun s i => ∃ k : Nat, k ≤ n ∧ i = .int .i64 k ∧ s = .int .i64 (dotTo row x k)) (fun _ i => n - (intOf i).toNat)
  case atStart => exact ⟨0, Nat.zero_le _, rfl, rfl⟩
  case round =>
    obtain ⟨k, hk, rfl, rfl⟩ := hrel
    by_cases hlt : k < n
    · obtain ⟨b, off, rfl, _, h1⟩ := HH.out k (by rw [HN.out]; exact hlt)
      obtain ⟨b2, off2, rfl, _, h2⟩ := HH2.out k (by rw [HN2.out]; omega)
      have h3 : k < n2 := by omega
      go_wp2
      go_round
      case rel => exact ⟨k + 1, by omega, by go_num, rfl⟩
      case measure => simp [intOf]; omega
    · have : k = n := by omega
      subst this
      go_wp2
      go_ret
      refine ⟨ret_int ?_, rfl⟩
      unfold dotW; rw [HN.out]

/-- a picture fits a cell -/
def fitC (x : List Int) (c : Cel) : Bool := inB (dotW c.row x) c.lo c.hi
def fitA (l : List Cel) (x : List Int) : Bool := l.all (fitC x)

theorem bitIn_c (w : World) (v : Value) (c : Cel) (hv : CelV w v c) (a : Option Addr) (n cap : Nat) (x : List Int) (hn : x.length = n) (hle : c.row.length ≤ n) (H : IntsAt w a x) :
    Calls Try.prog 81 #[v, .slice a n cap] w fun e w' => e = .returned (.bool (fitC x c)) ∧ Below w.heap.size w w' := by
  obtain ⟨ra, rn, rc, rfl, hrn, hrm, hri⟩ := hv
  have hb0 : Below w.heap.size w (w.alloc (.cells #[.slice ra rn rc, .int .i64 c.lo, .int .i64 c.hi] 41)) := (Below.refl _ _).alloc (Nat.le_refl _) _
  have HC := hid (fun (W : World) (hb : Below w.heap.size w W) => sum_c W ra a rn rc n cap c.row x hrn hn (by omega) hrm (hri.below hb) (H.below hb))
  clear hn H hri hle hrn
  go_enter Try.func81, Try.ntmps81
  go_wp2
  go_quiet (first | (go_at_call 54; exact Calls.quiet_of_same ((HC.out _ (by repeat (first | exact hb0 | refine below_drewN ?_ _))).mono fun _ _ h => ⟨h.1, h.2.symm⟩)) | (go_at_call 59; exact Calls.quiet_of_same ((within_c _ _ _ _).mono fun _ _ h => ⟨h.1, h.2.symm⟩)))
  go_wp2
  go_ret
  exact ⟨rfl, below_drewN hb0 _⟩

theorem fits1 (w : World) (b : Nat) (a : Option Addr) (n cap : Nat) (x : List Int) (hb : b < w.heap.size) (hc : w.cell? ⟨b, 0, none⟩ = some (.slice a n cap)) (hn : x.length = n) (H : IntsAt w a x) :
    PredC Try.prog 98 #[.pointer (some ⟨b, 0, none⟩)] w (fun c => c.row.length ≤ n) (fun c => !fitC x c) := by
  intro c v W hle hbw hv
  have hc' : W.cell? ⟨b, 0, none⟩ = some (.slice a n cap) := (hbw.cell (p := ⟨b, 0, none⟩) hb).trans hc
  have hbW : b < W.heap.size := Nat.lt_of_lt_of_le hb hbw.size
  obtain ⟨ra, rn, rc, rfl, hrn, hrm, hri⟩ := hv
  have hb0 : Below W.heap.size W (W.alloc (.cells #[.slice ra rn rc, .int .i64 c.lo, .int .i64 c.hi] 41)) := (Below.refl _ _).alloc (Nat.le_refl _) _
  have HC := hid (bitIn_c (W.alloc (.cells #[.slice ra rn rc, .int .i64 c.lo, .int .i64 c.hi] 41)) _ c ⟨ra, rn, rc, rfl, hrn, hrm, hri.below hb0⟩ a n cap x hn hle (H.below (chain hbw hb0)))
  clear hrn hri hle hn H
  go_enter Try.func98, Try.ntmps98
  go_wp2_with (go_at_call 81; refine HC.out.mono ?_; rintro e w1 ⟨rfl, hb2⟩)
  go_ret
  exact ⟨rfl, chain hb0 hb2⟩

theorem fits_c (w : World) (a : Option Addr) (n cap : Nat) (l : List Cel) (hn : l.length = n) (hm : n ≤ maxLen) (H : CellsAt w a l)
    (a2 : Option Addr) (n2 cap2 : Nat) (x : List Int) (hn2 : x.length = n2) (H2 : IntsAt w a2 x) (hle : ∀ c ∈ l, c.row.length ≤ n2) :
    Calls Try.prog 77 #[.slice a n cap, .slice a2 n2 cap2] w fun e w' => e = .returned (.bool (fitA l x)) ∧ Below w.heap.size w w' := by
  have hb0 : Below w.heap.size w (w.alloc (.cells #[.slice a2 n2 cap2] 25)) := (Below.refl _ _).alloc (Nat.le_refl _) _
  have HC := hid (containsC (w.alloc (.cells #[.slice a2 n2 cap2] 25)) a n cap l hn hm (H.below hb0) 98 #[.pointer (some ⟨w.heap.size, 0, none⟩)] _ _ (enters_of Try.func98 (by kernel_rfl) rfl)
    (fits1 _ w.heap.size a2 n2 cap2 x (by simp) (by simp) hn2 (H2.below hb0)) hle)
  clear hn H hn2 H2 hle
  have hmf : ∀ (fn : Fn) (first cap : Array Value) (w : World), (Instr.makeFunc fn first cap).run Try.prog w = .ok (.func fn first cap) w := fun _ _ _ _ => rfl
  go_enter Try.func77, Try.ntmps77
  go_wp2_with (refine HC.out.mono ?_; rintro e w1 ⟨rfl, hb1⟩)
  go_ret
  exact ⟨ret_bool (by simp [fitA, List.all_eq_not_any_not]), chain hb0 hb1⟩

theorem refFits_c (w : World) (a : Option Addr) (n cap : Nat) (l : List Cel) (hn : l.length = n) (hm : n ≤ maxLen) (H : CellsAt w a l)
    (a2 : Option Addr) (n2 cap2 : Nat) (x : List Int) (hn2 : x.length = n2) (H2 : IntsAt w a2 x) (hle : ∀ c ∈ l, c.row.length ≤ n2) :
    Calls Try.prog 78 #[.slice a n cap, .slice a2 n2 cap2] w fun e w' => e = .returned (.bool (fitA l x)) ∧ Below w.heap.size w w' := by
  have HN := hid hn
  have HH := hid H
  have HN2 := hid hn2
  have HH2 := hid H2
  have HL := hid hle
  clear hn H hn2 H2 hle
  unfold maxLen at hm
  go_enter Try.func78, Try.ntmps78
  go_wp2
  go_loopw [9] (fun i wr => ∃ k : Nat, k ≤ n ∧ i = .int .i64 k ∧ Below w.heap.size w wr ∧ ∀ j (hj : j < l.length), j < k → fitC x l[j] = true) (fun i _ => n - (intOf i).toNat)
  case atStart => exact ⟨0, Nat.zero_le _, rfl, Below.refl _ _, fun i _ h => by omega⟩
  case round =>
    obtain ⟨k, hk, rfl, hb, hno⟩ := hrel
    have HNO := hid hno
    clear hno
    by_cases hlt : k < n
    · have hkl : k < l.length := by rw [HN.out]; exact hlt
      obtain ⟨b, off, ra, rn, rc, rfl, hbs, h0, h1, h2, hrn, hrm, hri⟩ := HH.out.below hb k hkl
      have hb1 : Below wr.heap.size wr (wr.alloc (.cells #[.slice ra rn rc, .int .i64 l[k].lo, .int .i64 l[k].hi] 41)) := (Below.refl _ _).alloc (Nat.le_refl _) _
      have HC := hid (fun (W : World) (hb : Below wr.heap.size wr W) => refSum_c W ra a2 rn rc n2 cap2 l[k].row x hrn HN2.out (by have := HL.out l[k] (List.getElem_mem hkl); omega) hrm (hri.below hb) ((HH2.out.below (by assumption)).below hb))
      clear hrn hri
      cases hpx : fitC x l[k]
      all_goals
        have hpx' : inB (dotW l[k].row x) l[k].lo l[k].hi = fitC x l[k] := rfl
        rw [hpx] at hpx'
        go_wp2
        go_quiet (first | (go_at_call 57; exact Calls.quiet_of_same ((HC.out _ (by repeat (first | exact hb1 | refine below_drewN ?_ _))).mono fun _ _ h => ⟨h.1, h.2.symm⟩)) | (go_at_call 60; exact Calls.quiet_of_same ((in_c _ _ _ _).mono fun _ _ h => ⟨h.1, h.2.symm⟩)))
        go_wp2
      · go_ret
        refine ⟨ret_bool ?_, chain hb (below_drewN hb1 _)⟩
        unfold fitA; rw [allC_stop hkl hpx]
      · have HR : Hid (∃ k_1 : Nat, k_1 ≤ n ∧ Value.int .i64 ((k : Int) + 1) = Value.int .i64 (k_1 : Int) ∧ Below w.heap.size w ((wr.alloc (.cells #[.slice ra rn rc, .int .i64 l[k].lo, .int .i64 l[k].hi] 41)).drewN nq) ∧ ∀ j (hj : j < l.length), j < k_1 → fitC x l[j] = true) := by
          refine ⟨k + 1, by omega, cast1 k, chain hb (below_drewN hb1 _), ?_⟩
          intro j hj hjk
          by_cases e : j = k
          · subst e; exact hpx
          · exact HNO.out j hj (by omega)
        first | exact ⟨HR.out, meas hlt⟩ | (go_roundw; (case rel => exact HR.out); (case measure => exact meas hlt))
    · go_wp2
      go_ret
      refine ⟨ret_bool ?_, hb⟩
      unfold fitA; exact (allC_done (fun j hj => HNO.out j hj (by have := HN.out; omega))).symm
end Go.Proofs.Ytdcflpfaaeijoaa
