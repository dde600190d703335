/- Walks of package mask: within, all, row, Valid. -/
import Derived.Test.YtfipebkhomppmaaLists
import Derived.Laws.EntriesVeiled
namespace Go.Proofs.Ytfipebkhomppmaa
open Go.RowKit
set_option linter.unusedVariables false

/-- 'n >= lo && n <= hi' -/
def inB (n lo hi : Int) : Bool := decide (lo ≤ n) && decide (n ≤ hi)

theorem mwithin_c (n lo hi : Int) (w : World) : Calls Try.prog 123 #[.int .i64 n, .int .i64 lo, .int .i64 hi] w fun e w' => e = .returned (.bool (inB n lo hi)) ∧ w = w' := by
  by_cases h1 : lo ≤ n <;> by_cases h2 : n ≤ hi
  all_goals
    go_enter Try.func123, Try.ntmps123
    go_wp2
    go_ret
    exact ⟨ret_bool (by simp [inB, h1, h2]), rfl⟩

theorem indexI (w : World) (a : Option Addr) (n cap : Nat) (l : List Int) (hn : l.length = n) (hm : n ≤ maxLen) (H : IntsAt w a l) (g : Nat) (lb : Array Value) (p : Int → Bool)
    (eg : ∀ args w, (callFunc g args).run Try.prog w = .ok (.enter g args) w) (hp : PredI Try.prog g lb w p) :
    Calls Try.prog 118 #[.slice a n cap, .func (.func g) #[] lb] w fun e w' => e = .returned (.int .i64 (idxP p l 0)) ∧ Below w.heap.size w w' := by
  have HN := hid hn
  have HH := hid H
  have HP := hid hp
  clear hn H hp
  unfold maxLen at hm
  go_enter Try.func118, Try.ntmps118
  go_wp2
  go_loopw [8] (fun i wr => ∃ k : Nat, k ≤ n ∧ i = .int .i64 k ∧ Below w.heap.size w wr ∧ ∀ i y, i < k → l[i]? = some y → p y = false) (fun i _ => n - (intOf i).toNat)
  case atStart => exact ⟨0, Nat.zero_le _, rfl, Below.refl _ _, fun i y h => by omega⟩
  case round =>
    obtain ⟨k, hk, rfl, hb, hno⟩ := hrel
    have HNO := hid hno
    clear hno
    by_cases hlt : k < n
    · obtain ⟨b, off, rfl, hbs, hc⟩ := (HH.out.below hb) k (by rw [HN.out]; exact hlt)
      have hkk := getD_lt (l := l) (k := k) (by rw [HN.out]; exact hlt)
      have HK := hid hkk
      clear hkk
      cases hpx : p (l[k]?.getD 0)
      · go_wp2_with (refine (HP.out _ _ hb).mono ?_; rintro e w1 ⟨rfl, hb1⟩)
        refine ⟨⟨k + 1, by omega, by go_num, chain hb hb1, ?_⟩, by simp [intOf]; omega⟩
        intro i y hi hy
        by_cases e : i = k
        · subst e; rw [HK.out] at hy; cases hy; exact hpx
        · exact HNO.out i y (by omega) hy
      · go_wp2_with (refine (HP.out _ _ hb).mono ?_; rintro e w1 ⟨rfl, hb1⟩)
        go_ret
        refine ⟨ret_int ?_, chain hb hb1⟩
        rw [idxP_at p l 0 k _ HK.out hpx HNO.out]; simp
    · go_wp2
      go_ret
      refine ⟨ret_int ?_, hb⟩
      rw [idxP_neg]
      intro x hx
      obtain ⟨i, hi, e⟩ := List.getElem_of_mem hx
      exact HNO.out i x (by have := HN.out; omega) (by rw [List.getElem?_eq_getElem hi, e])

theorem containsI (w : World) (a : Option Addr) (n cap : Nat) (l : List Int) (hn : l.length = n) (hm : n ≤ maxLen) (H : IntsAt w a l) (g : Nat) (lb : Array Value) (p : Int → Bool)
    (eg : ∀ args w, (callFunc g args).run Try.prog w = .ok (.enter g args) w) (hp : PredI Try.prog g lb w p) :
    Calls Try.prog 71 #[.slice a n cap, .func (.func g) #[] lb] w fun e w' => e = .returned (.bool (l.any p)) ∧ Below w.heap.size w w' := by
  have HC := hid (indexI w a n cap l hn hm H g lb p eg hp)
  have HG := idxP_ge p l 0
  have HG' := hid HG
  clear hn H hp HG
  go_enter Try.func71, Try.ntmps71
  go_wp2_with (refine HC.out.mono ?_; rintro e w1 ⟨rfl, hb1⟩)
  go_ret
  refine ⟨ret_bool ?_, hb1⟩
  rw [Bool.eq_iff_iff, decide_eq_true_iff, HG'.out]

/-- a value that is a slice of the ints l -/
def SlV (w : World) (v : Value) (l : List Int) : Prop := ∃ ra n cap, v = .slice ra n cap ∧ l.length = n ∧ n ≤ maxLen ∧ IntsAt w ra l
theorem SlV.below {w w' : World} {v : Value} {l : List Int} (h : SlV w v l) (hb : Below w.heap.size w w') : SlV w' v l := by
  obtain ⟨ra, n, cap, e, hn, hm, hi⟩ := h
  exact ⟨ra, n, cap, e, hn, hm, hi.below hb⟩

/-- a predicate on slices of ints handed over as a function value -/
def PredR (P : Program) (g : Nat) (lb : Array Value) (w : World) (p : List Int → Bool) : Prop :=
  ∀ (l : List Int) (v : Value) (W : World), Below w.heap.size w W → SlV W v l → Calls P g (#[v] ++ lb) W fun e W' => e = .returned (.bool (p l)) ∧ Below W.heap.size W W'

theorem indexR (w : World) (a : Option Addr) (n cap : Nat) (l : List (List Int)) (hn : l.length = n) (hm : n ≤ maxLen) (H : RowsAt w a l) (g : Nat) (lb : Array Value) (p : List Int → Bool)
    (eg : ∀ args w, (callFunc g args).run Try.prog w = .ok (.enter g args) w) (hp : PredR Try.prog g lb w p) :
    Calls Try.prog 129 #[.slice a n cap, .func (.func g) #[] lb] w fun e w' => e = .returned (.int .i64 (idxP p l 0)) ∧ Below w.heap.size w w' := by
  have HN := hid hn
  have HH := hid H
  have HP := hid hp
  clear hn H hp
  unfold maxLen at hm
  go_enter Try.func129, Try.ntmps129
  go_wp2
  go_loopw [8] (fun i wr => ∃ k : Nat, k ≤ n ∧ i = .int .i64 k ∧ Below w.heap.size w wr ∧ ∀ i y, i < k → l[i]? = some y → p y = false) (fun i _ => n - (intOf i).toNat)
  case atStart => exact ⟨0, Nat.zero_le _, rfl, Below.refl _ _, fun i y h => by omega⟩
  case round =>
    obtain ⟨k, hk, rfl, hb, hno⟩ := hrel
    have HNO := hid hno
    clear hno
    by_cases hlt : k < n
    · have hkl : k < l.length := by rw [HN.out]; exact hlt
      obtain ⟨b, off, ra, rn, rc, rfl, hbs, h0, hrn, hrm, hri⟩ := (HH.out.below hb) k hkl
      have HV := hid (show SlV wr (.slice ra rn rc) l[k] from ⟨ra, rn, rc, rfl, hrn, hrm, hri⟩)
      clear hrn hri
      have HK := hid (List.getElem?_eq_getElem hkl)
      cases hpx : p l[k]
      · go_wp2_with (refine (HP.out _ _ _ hb HV.out).mono ?_; rintro e w1 ⟨rfl, hb1⟩)
        refine ⟨⟨k + 1, by omega, by go_num, chain hb hb1, ?_⟩, by simp [intOf]; omega⟩
        intro i y hi hy
        by_cases e : i = k
        · subst e; rw [HK.out] at hy; cases hy; exact hpx
        · exact HNO.out i y (by omega) hy
      · go_wp2_with (refine (HP.out _ _ _ hb HV.out).mono ?_; rintro e w1 ⟨rfl, hb1⟩)
        go_ret
        refine ⟨ret_int ?_, chain hb hb1⟩
        rw [idxP_at p l 0 k _ HK.out hpx HNO.out]; simp
    · go_wp2
      go_ret
      refine ⟨ret_int ?_, hb⟩
      rw [idxP_neg]
      intro x hx
      obtain ⟨i, hi, e⟩ := List.getElem_of_mem hx
      exact HNO.out i x (by have := HN.out; omega) (by rw [List.getElem?_eq_getElem hi, e])

theorem containsR (w : World) (a : Option Addr) (n cap : Nat) (l : List (List Int)) (hn : l.length = n) (hm : n ≤ maxLen) (H : RowsAt w a l) (g : Nat) (lb : Array Value) (p : List Int → Bool)
    (eg : ∀ args w, (callFunc g args).run Try.prog w = .ok (.enter g args) w) (hp : PredR Try.prog g lb w p) :
    Calls Try.prog 149 #[.slice a n cap, .func (.func g) #[] lb] w fun e w' => e = .returned (.bool (l.any p)) ∧ Below w.heap.size w w' := by
  have HC := hid (indexR w a n cap l hn hm H g lb p eg hp)
  have HG := idxP_ge p l 0
  have HG' := hid HG
  clear hn H hp HG
  go_enter Try.func149, Try.ntmps149
  go_wp2_with (refine HC.out.mono ?_; rintro e w1 ⟨rfl, hb1⟩)
  go_ret
  refine ⟨ret_bool ?_, hb1⟩
  rw [Bool.eq_iff_iff, decide_eq_true_iff, HG'.out]

theorem allI1 (w : World) (b g : Nat) (lb : Array Value) (p : Int → Bool) (eg : ∀ args w, (callFunc g args).run Try.prog w = .ok (.enter g args) w) (hb : b < w.heap.size) (hc : w.cell? ⟨b, 0, none⟩ = some (.func (.func g) #[] lb)) (hp : PredI Try.prog g lb w p) :
    PredI Try.prog 168 #[.pointer (some ⟨b, 0, none⟩)] w (fun n => !p n) := by
  intro x W hbw
  have hc' : W.cell? ⟨b, 0, none⟩ = some (.func (.func g) #[] lb) := (hbw.cell (p := ⟨b, 0, none⟩) hb).trans hc
  have HP := hid (hp x W hbw)
  clear hp
  go_enter Try.func168, Try.ntmps168
  go_wp2_with (refine HP.out.mono ?_; rintro e w1 ⟨rfl, hb1⟩)
  go_ret
  exact ⟨rfl, hb1⟩

theorem allI_c (w : World) (a : Option Addr) (n cap : Nat) (l : List Int) (hn : l.length = n) (hm : n ≤ maxLen) (H : IntsAt w a l) (g : Nat) (lb : Array Value) (p : Int → Bool)
    (eg : ∀ args w, (callFunc g args).run Try.prog w = .ok (.enter g args) w) (hp : PredI Try.prog g lb w p) :
    Calls Try.prog 151 #[.slice a n cap, .func (.func g) #[] lb] w fun e w' => e = .returned (.bool (l.all p)) ∧ Below w.heap.size w w' := by
  have hb0 : Below w.heap.size w (w.alloc (.cells #[.func (.func g) #[] lb] 76)) := (Below.refl _ _).alloc (Nat.le_refl _) _
  have HC := hid (containsI (w.alloc (.cells #[.func (.func g) #[] lb] 76)) a n cap l hn hm (H.below hb0) 168 #[.pointer (some ⟨w.heap.size, 0, none⟩)] _ (enters_of Try.func168 (by kernel_rfl) rfl)
    (allI1 _ w.heap.size g lb p eg (by simp) (by rw [World.cell?_alloc_at _ _ _ _ rfl]; rfl) (fun x W h => hp x W (chain hb0 h))))
  clear hn H hp
  have hmf : ∀ (fn : Fn) (first cap : Array Value) (w : World), (Instr.makeFunc fn first cap).run Try.prog w = .ok (.func fn first cap) w := fun _ _ _ _ => rfl
  go_enter Try.func151, Try.ntmps151
  go_wp2_with (refine HC.out.mono ?_; rintro e w1 ⟨rfl, hb1⟩)
  go_ret
  exact ⟨ret_bool (by simp [List.all_eq_not_any_not]), chain hb0 hb1⟩

theorem allR1 (w : World) (b g : Nat) (lb : Array Value) (p : List Int → Bool) (eg : ∀ args w, (callFunc g args).run Try.prog w = .ok (.enter g args) w) (hb : b < w.heap.size) (hc : w.cell? ⟨b, 0, none⟩ = some (.func (.func g) #[] lb)) (hp : PredR Try.prog g lb w p) :
    PredR Try.prog 150 #[.pointer (some ⟨b, 0, none⟩)] w (fun n => !p n) := by
  intro x v W hbw hv
  have hc' : W.cell? ⟨b, 0, none⟩ = some (.func (.func g) #[] lb) := (hbw.cell (p := ⟨b, 0, none⟩) hb).trans hc
  have HP := hid (hp x v W hbw hv)
  obtain ⟨ra, rn, rc, rfl, _, _, _⟩ := hv
  clear hp
  go_enter Try.func150, Try.ntmps150
  go_wp2_with (refine HP.out.mono ?_; rintro e w1 ⟨rfl, hb1⟩)
  go_ret
  exact ⟨rfl, hb1⟩

theorem allR_c (w : World) (a : Option Addr) (n cap : Nat) (l : List (List Int)) (hn : l.length = n) (hm : n ≤ maxLen) (H : RowsAt w a l) (g : Nat) (lb : Array Value) (p : List Int → Bool)
    (eg : ∀ args w, (callFunc g args).run Try.prog w = .ok (.enter g args) w) (hp : PredR Try.prog g lb w p) :
    Calls Try.prog 124 #[.slice a n cap, .func (.func g) #[] lb] w fun e w' => e = .returned (.bool (l.all p)) ∧ Below w.heap.size w w' := by
  have hb0 : Below w.heap.size w (w.alloc (.cells #[.func (.func g) #[] lb] 39)) := (Below.refl _ _).alloc (Nat.le_refl _) _
  have HC := hid (containsR (w.alloc (.cells #[.func (.func g) #[] lb] 39)) a n cap l hn hm (H.below hb0) 150 #[.pointer (some ⟨w.heap.size, 0, none⟩)] _ (enters_of Try.func150 (by kernel_rfl) rfl)
    (allR1 _ w.heap.size g lb p eg (by simp) (by rw [World.cell?_alloc_at _ _ _ _ rfl]; rfl) (fun x v W h => hp x v W (chain hb0 h))))
  clear hn H hp
  have hmf : ∀ (fn : Fn) (first cap : Array Value) (w : World), (Instr.makeFunc fn first cap).run Try.prog w = .ok (.func fn first cap) w := fun _ _ _ _ => rfl
  go_enter Try.func124, Try.ntmps124
  go_wp2_with (refine HC.out.mono ?_; rintro e w1 ⟨rfl, hb1⟩)
  go_ret
  exact ⟨ret_bool (by simp [List.all_eq_not_any_not]), chain hb0 hb1⟩

abbrev Mask := List (List Int)
/-- a row that may stand in a mask -/
def okMRow (l : List Int) : Bool := inB l.length 1 10 && l.all (fun n => inB n (-1) 1)
/-- the pixels of a mask -/
def colsM (M : Mask) : Nat := (M[0]?.getD []).length
/-- a mask that is valid -/
def okM (M : Mask) : Bool := inB M.length 1 6 && M.all (fun l => decide (l.length = colsM M) && okMRow l)

theorem row1 (w : World) : PredI Try.prog 152 #[] w (fun n => inB n (-1) 1) := by
  intro x W hb
  go_enter Try.func152, Try.ntmps152
  go_wp2_with (go_at_call 123; refine (mwithin_c _ _ _ _).mono ?_; rintro e w1 ⟨rfl, rfl⟩)
  go_ret
  exact ⟨rfl, Below.refl _ _⟩

theorem mrow_c (w : World) (a : Option Addr) (n cap : Nat) (l : List Int) (hn : l.length = n) (hm : n ≤ maxLen) (H : IntsAt w a l) :
    Calls Try.prog 126 #[.slice a n cap] w fun e w' => e = .returned (.bool (okMRow l)) ∧ Below w.heap.size w w' := by
  have HC := hid (allI_c w a n cap l hn hm H 152 #[] _ (enters_of Try.func152 (by kernel_rfl) rfl) (row1 w))
  have HN := hid hn
  clear hn H
  cases h : inB n 1 10
  all_goals
    have HQ := hid h
    go_enter Try.func126, Try.ntmps126
    go_wp2_with (first | (go_at_call 123; refine (mwithin_c _ _ _ _).mono ?_; rintro e w1 ⟨rfl, rfl⟩) | (refine HC.out.mono ?_; rintro e w1 ⟨rfl, hb1⟩))
    go_ret
    first
      | exact ⟨ret_bool (by unfold okMRow; rw [HN.out, HQ.out]; simp), hb1⟩
      | exact ⟨ret_bool (by unfold okMRow; rw [HN.out, HQ.out]; simp), Below.refl _ _⟩

theorem valid1 (w : World) (b : Nat) (a : Option Addr) (n cap : Nat) (M : Mask) (hn : M.length = n) (hm : n ≤ maxLen) (h0 : 0 < n) (H : RowsAt w a M) (hb : b < w.heap.size) (hc : w.cell? ⟨b, 0, none⟩ = some (.slice a n cap)) :
    PredR Try.prog 125 #[.pointer (some ⟨b, 0, none⟩)] w (fun l => decide (l.length = colsM M) && okMRow l) := by
  intro x v W hbw hv
  have hc' : W.cell? ⟨b, 0, none⟩ = some (.slice a n cap) := (hbw.cell (p := ⟨b, 0, none⟩) hb).trans hc
  obtain ⟨ra, rn, rc, rfl, hrn, hrm, hri⟩ := hv
  have HR := hid (mrow_c W ra rn rc x hrn hrm hri)
  obtain ⟨b', off, qa, qn, qc, rfl, hbs, hq0, hqn, hqm, hqi⟩ := (H.below hbw) 0 (by omega)
  have HCols : colsM M = qn := by unfold colsM; rw [List.getElem?_eq_getElem (by omega), ← hqn]; rfl
  have HCO := hid HCols
  have HRN := hid hrn
  unfold maxLen at hm
  simp only [Nat.add_zero] at hq0
  clear HCols hrn hri hqn hqi H hc
  by_cases h : rn = qn
  all_goals
    have hd : ((rn : Int) == (qn : Int)) = decide (rn = qn) := by rw [Bool.eq_iff_iff]; simp; omega
    have HQ := hid h
    first
      | rw [decide_eq_true h] at hd
      | rw [decide_eq_false h] at hd
    clear h
    go_enter Try.func125, Try.ntmps125
    go_wp2_with (go_at_call 126; refine HR.out.mono ?_; rintro e w1 ⟨rfl, hb1⟩)
    go_ret
    first
      | exact ⟨ret_bool (by rw [HRN.out, HCO.out, decide_eq_true HQ.out]; simp), hb1⟩
      | exact ⟨ret_bool (by rw [HRN.out, HCO.out, decide_eq_false HQ.out]; simp), Below.refl _ _⟩

theorem maskValid_c (w : World) (a : Option Addr) (n cap : Nat) (M : Mask) (hn : M.length = n) (hm : n ≤ maxLen) (H : RowsAt w a M) :
    Calls Try.prog 69 #[.slice a n cap] w fun e w' => e = .returned (.bool (okM M)) ∧ Below w.heap.size w w' := by
  have hb0 : Below w.heap.size w (w.alloc (.cells #[.slice a n cap] 23)) := (Below.refl _ _).alloc (Nat.le_refl _) _
  have hmf : ∀ (fn : Fn) (first cap : Array Value) (w : World), (Instr.makeFunc fn first cap).run Try.prog w = .ok (.func fn first cap) w := fun _ _ _ _ => rfl
  cases h : inB n 1 6
  · have HQ := hid h
    have HN := hid hn
    clear hn H
    go_enter Try.func69, Try.ntmps69
    go_wp2_with (go_at_call 123; refine (mwithin_c _ _ _ _).mono ?_; rintro e w1 ⟨rfl, rfl⟩)
    go_ret
    exact ⟨ret_bool (by unfold okM; rw [HN.out, HQ.out]; simp), hb0⟩
  · have h0 : 0 < n := by unfold inB at h; simp at h; omega
    have HC := hid (allR_c (w.alloc (.cells #[.slice a n cap] 23)) a n cap M hn hm (H.below hb0) 125 #[.pointer (some ⟨w.heap.size, 0, none⟩)] _ (enters_of Try.func125 (by kernel_rfl) rfl)
      (valid1 _ w.heap.size a n cap M hn hm h0 (H.below hb0) (by simp) (by rw [World.cell?_alloc_at _ _ _ _ rfl]; rfl)))
    have HQ := hid h
    have HN := hid hn
    clear hn H
    go_enter Try.func69, Try.ntmps69
    go_wp2_with (first | (go_at_call 123; refine (mwithin_c _ _ _ _).mono ?_; rintro e w1 ⟨rfl, rfl⟩) | (refine HC.out.mono ?_; rintro e w1 ⟨rfl, hb1⟩))
    go_ret
    exact ⟨ret_bool (by unfold okM; rw [HN.out, HQ.out]; simp), chain hb0 hb1⟩
end Go.Proofs.Ytfipebkhomppmaa
