/- Walks of package bit and of its reference: validity, sums, fitting. -/
import Derived.Test.YtdcflpfaaeijoaaBitB
namespace Go.Proofs.Ytdcflpfaaeijoaa
open Go.RowKit
set_option linter.unusedVariables false

theorem all_stop {l : List Int} {f : Int → Bool} {k : Nat} (hk : k < l.length) (h : f (l[k]?.getD 0) = false) : l.all f = false := by
  rw [List.all_eq_false]
  exact ⟨l[k], List.getElem_mem hk, by simpa [List.getElem?_eq_getElem hk] using h⟩
theorem all_done {l : List Int} {f : Int → Bool} (h : ∀ j, j < l.length → f (l[j]?.getD 0) = true) : l.all f = true := by
  rw [List.all_eq_true]
  intro x hx
  obtain ⟨i, hi, e⟩ := List.getElem_of_mem hx
  have := h i hi
  rw [List.getElem?_eq_getElem hi, e] at this
  simpa using this
theorem allC_stop {l : List Cel} {f : Cel → Bool} {k : Nat} (hk : k < l.length) (h : f l[k] = false) : l.all f = false := by
  rw [List.all_eq_false]
  exact ⟨l[k], List.getElem_mem hk, by simpa using h⟩
theorem allC_done {α : Type} {l : List α} {f : α → Bool} (h : ∀ j (hj : j < l.length), f l[j] = true) : l.all f = true := by
  rw [List.all_eq_true]
  intro x hx
  obtain ⟨i, hi, e⟩ := List.getElem_of_mem hx
  have := h i hi
  rwa [e] at this

theorem refValidRow_c (w : World) (pixels : Int) (a : Option Addr) (n cap : Nat) (l : List Int) (hn : l.length = n) (hm : n ≤ maxLen) (H : IntsAt w a l) :
    Calls Try.prog 93 #[.slice a n cap, .int .i64 pixels] w fun e w' => e = .returned (.bool (okRow pixels l)) ∧ w = w' := by
  have HN := hid hn
  have HH := hid H
  clear hn H
  unfold maxLen at hm
  go_enter Try.func93, Try.ntmps93
  go_wp2
  go_loop [9] (fun i => ∃ k : Nat, k ≤ n ∧ i = .int .i64 k ∧ ∀ j, j < k → inB (l[j]?.getD 0) (-1) 1 = true) (fun i => n - (intOf i).toNat)
  case atStart => exact ⟨0, Nat.zero_le _, rfl, fun i h => by omega⟩
  case round =>
    obtain ⟨k, hk, rfl, hno⟩ := hrel
    have HNO := hid hno
    clear hno
    by_cases hlt : k < n
    · have HKL := hid (show k < l.length by rw [HN.out]; exact hlt)
      obtain ⟨b, off, rfl, hbs, hc⟩ := HH.out k HKL.out
      cases hpx : inB (l[k]?.getD 0) (-1) 1
      · go_wp2_with (go_at_call 60; refine (in_c _ _ _ _).mono ?_; rintro e w1 ⟨rfl, rfl⟩)
        go_ret
        refine ⟨ret_bool ?_, rfl⟩
        unfold okRow; rw [all_stop HKL.out hpx]; simp
      · have HR : Hid (∃ k_1 : Nat, k_1 ≤ n ∧ Value.int .i64 ((k : Int) + 1) = Value.int .i64 (k_1 : Int) ∧ ∀ j, j < k_1 → inB (l[j]?.getD 0) (-1) 1 = true) := by
          refine ⟨k + 1, by omega, cast1 k, ?_⟩
          intro j hj
          by_cases e : j = k
          · subst e; exact hpx
          · exact HNO.out j (by omega)
        go_wp2_with (go_at_call 60; refine (in_c _ _ _ _).mono ?_; rintro e w1 ⟨rfl, rfl⟩)
        first | exact ⟨HR.out, meas hlt⟩ | (go_round; (case rel => exact HR.out); (case measure => exact meas hlt))
    · go_wp2
      go_ret
      refine ⟨ret_bool ?_, rfl⟩
      unfold okRow; rw [all_done (fun j hj => HNO.out j (by have := HN.out; omega)), HN.out]; rw [Bool.and_true, Bool.eq_iff_iff]; simp

theorem refValidCell_c (w : World) (pixels : Int) (v : Value) (c : Cel) (hv : CelV w v c) :
    Calls Try.prog 64 #[v, .int .i64 pixels] w fun e w' => e = .returned (.bool (okCell pixels c)) ∧ Below w.heap.size w w' := by
  obtain ⟨ra, rn, rc, rfl, hrn, hrm, hri⟩ := hv
  have hb0 : Below w.heap.size w (w.alloc (.cells #[.slice ra rn rc, .int .i64 c.lo, .int .i64 c.hi] 41)) := (Below.refl _ _).alloc (Nat.le_refl _) _
  have HC := hid (refValidRow_c (w.alloc (.cells #[.slice ra rn rc, .int .i64 c.lo, .int .i64 c.hi] 41)) pixels ra rn rc c.row hrn hrm (hri.below hb0))
  clear hrn hri
  cases h1 : okRow pixels c.row <;> by_cases h2 : -100 ≤ c.lo <;> by_cases h3 : c.lo ≤ c.hi
  all_goals
    go_enter Try.func64, Try.ntmps64
    go_wp2_with (go_at_call 93; refine HC.out.mono ?_; rintro e w1 ⟨rfl, rfl⟩)
    go_ret
    exact ⟨ret_bool (by simp [okCell, h1, h2, h3, inB]; try omega), hb0⟩

theorem refValidCells_c (w : World) (p t : Int) (a : Option Addr) (n cap : Nat) (l : List Cel) (hn : l.length = n) (hm : n ≤ maxLen) (H : CellsAt w a l) :
    Calls Try.prog 22 #[.agg #[.int .i64 p, .int .i64 t], .slice a n cap] w fun e w' => e = .returned (.bool (okCells p t l)) ∧ Below w.heap.size w w' := by
  have HN := hid hn
  have HH := hid H
  clear hn H
  unfold maxLen at hm
  go_enter Try.func22, Try.ntmps22
  go_wp2
  go_loopw [9] (fun i wr => ∃ k : Nat, k ≤ n ∧ i = .int .i64 k ∧ Below (w.heap.size + 1) (w.alloc (.cells #[.int .i64 p, .int .i64 t] 23)) wr ∧ ∀ j (hj : j < l.length), j < k → okCell p l[j] = true) (fun i _ => n - (intOf i).toNat)
  case atStart => exact ⟨0, Nat.zero_le _, rfl, Below.refl _ _, fun i _ h => by omega⟩
  case round =>
    obtain ⟨k, hk, rfl, hb, hno⟩ := hrel
    have HNO := hid hno
    clear hno
    have hsz : w.heap.size < wr.heap.size := by have := hb.size; simp at this; omega
    have hf0 : wr.cell? ⟨w.heap.size, 0, none⟩ = some (.int .i64 p) := (hb.cell (p := ⟨w.heap.size, 0, none⟩) (by simp)).trans (by simp)
    have hf1 : wr.cell? ⟨w.heap.size, 1, none⟩ = some (.int .i64 t) := (hb.cell (p := ⟨w.heap.size, 1, none⟩) (by simp)).trans (by simp)
    have hbw : Below w.heap.size w wr := ((Below.refl _ w).alloc (Nat.le_refl _) _).trans (hb.mono (by omega))
    by_cases hlt : k < n
    · have hkl : k < l.length := by rw [HN.out]; exact hlt
      obtain ⟨b, off, ra, rn, rc, rfl, hbs, h0, h1, h2, hrn, hrm, hri⟩ := HH.out.below hbw k hkl
      have hb1 : Below wr.heap.size wr (wr.alloc (.cells #[.slice ra rn rc, .int .i64 l[k].lo, .int .i64 l[k].hi] 41)) := (Below.refl _ _).alloc (Nat.le_refl _) _
      have HC := hid (refValidCell_c (wr.alloc (.cells #[.slice ra rn rc, .int .i64 l[k].lo, .int .i64 l[k].hi] 41)) p (.agg #[.slice ra rn rc, .int .i64 l[k].lo, .int .i64 l[k].hi]) l[k] ⟨ra, rn, rc, rfl, hrn, hrm, hri.below hb1⟩)
      clear hrn hri
      cases hpx : okCell p l[k]
      · go_wp2_with (go_at_call 64; refine HC.out.mono ?_; rintro e w1 ⟨rfl, hb2⟩)
        go_ret
        refine ⟨ret_bool ?_, chain hbw (chain hb1 hb2)⟩
        unfold okCells; rw [allC_stop hkl hpx]; simp
      · go_wp2_with (go_at_call 64; refine HC.out.mono ?_; rintro e w1 ⟨rfl, hb2⟩)
        refine ⟨⟨k + 1, by omega, by go_num, hb.trans ((chain hb1 hb2).mono (by omega)), ?_⟩, by simp [intOf]; omega⟩
        intro j hj hjk
        by_cases e : j = k
        · subst e; exact hpx
        · exact HNO.out j hj (by omega)
    · have hall : l.all (okCell p) = true := allC_done (fun j hj => HNO.out j hj (by have := HN.out; omega))
      cases hf : okField p t
      all_goals
        go_wp2_with (go_at_call 20; refine (refValidField_c _ _ _).mono ?_; rintro e w1 ⟨rfl, hb2⟩)
        go_ret
        exact ⟨ret_bool (by simp [okCells, hf, hall, HN.out]; try omega), chain hbw hb2⟩

theorem validCells1 (w : World) (p t : Int) (b : Nat) (hb : b < w.heap.size) (hc : w.cell? ⟨b, 0, none⟩ = some (.int .i64 p)) : PredC Try.prog 62 #[.pointer (some ⟨b, 0, none⟩)] w (fun _ => True) (fun c => !okCell p c) := by
  intro c v W _ hbw hv
  have hc' : W.cell? ⟨b, 0, none⟩ = some (.int .i64 p) := (hbw.cell (p := ⟨b, 0, none⟩) hb).trans hc
  have hbW : b < W.heap.size := Nat.lt_of_lt_of_le hb hbw.size
  obtain ⟨ra, rn, rc, rfl, hrn, hrm, hri⟩ := hv
  have hb0 : Below W.heap.size W (W.alloc (.cells #[.slice ra rn rc, .int .i64 c.lo, .int .i64 c.hi] 41)) := (Below.refl _ _).alloc (Nat.le_refl _) _
  have HC := hid (validCell_c (W.alloc (.cells #[.slice ra rn rc, .int .i64 c.lo, .int .i64 c.hi] 41)) p _ c ⟨ra, rn, rc, rfl, hrn, hrm, hri.below hb0⟩)
  clear hrn hri
  go_enter Try.func62, Try.ntmps62
  go_wp2_with (go_at_call 63; refine HC.out.mono ?_; rintro e w1 ⟨rfl, hb2⟩)
  go_ret
  exact ⟨rfl, chain hb0 hb2⟩

theorem validCells_c (w : World) (p t : Int) (a : Option Addr) (n cap : Nat) (l : List Cel) (hn : l.length = n) (hm : n ≤ maxLen) (H : CellsAt w a l) :
    Calls Try.prog 21 #[.agg #[.int .i64 p, .int .i64 t], .slice a n cap] w fun e w' => e = .returned (.bool (okCells p t l)) ∧ Below w.heap.size w w' := by
  have HH := hid H
  have HN := hid hn
  have hm' := hm
  unfold maxLen at hm'
  have hb0 : Below w.heap.size w (w.alloc (.cells #[.int .i64 p, .int .i64 t] 23)) := (Below.refl _ _).alloc (Nat.le_refl _) _
  have eg := enters_of Try.func62 (by kernel_rfl) rfl
  have HC := hid (fun (w1 : World) (hb1 : Below (w.alloc (.cells #[.int .i64 p, .int .i64 t] 23)).heap.size (w.alloc (.cells #[.int .i64 p, .int .i64 t] 23)) w1) =>
    containsC w1 a n cap l hn hm (H.below (chain hb0 hb1)) 62 #[.pointer (some ⟨w.heap.size, 0, none⟩)] (fun _ => True) (fun c => !okCell p c) eg
      (validCells1 w1 p t w.heap.size (by have := hb1.size; simp at this; omega) ((hb1.cell (p := ⟨w.heap.size, 0, none⟩) (by simp)).trans (by simp))) (fun _ _ => trivial))
  clear hn H eg hm
  have hmf : ∀ (fn : Fn) (first cap : Array Value) (w : World), (Instr.makeFunc fn first cap).run Try.prog w = .ok (.func fn first cap) w := fun _ _ _ _ => rfl
  cases h1 : okField p t <;> by_cases h2 : n ≤ 30
  all_goals
    go_enter Try.func21, Try.ntmps21
    go_wp2_with (first | (go_at_call 19; refine (validField_c _ _ _).mono ?_; rintro e w1 ⟨rfl, hb1⟩) | (go_at_call 61; refine (HC.out _ hb1).mono ?_; rintro e w2 ⟨rfl, hb2⟩))
    go_ret
    first
      | exact ⟨ret_bool (by simp [okCells, h1, h2, HN.out, List.all_eq_not_any_not]), chain hb0 (chain hb1 hb2)⟩
      | exact ⟨ret_bool (by simp [okCells, h1, h2, HN.out]), chain hb0 hb1⟩
end Go.Proofs.Ytdcflpfaaeijoaa
