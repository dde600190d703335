/- Walks of package bit and of its reference: cells. -/
import Derived.Test.YtdcflpfaaeijoaaBitA
namespace Go.Proofs.Ytdcflpfaaeijoaa
open Go.RowKit
set_option linter.unusedVariables false

theorem indexC (w : World) (a : Option Addr) (n cap : Nat) (l : List Cel) (hn : l.length = n) (hm : n ≤ maxLen) (H : CellsAt w a l) (g : Nat) (lb : Array Value) (ok : Cel → Prop) (p : Cel → Bool)
    (eg : ∀ args w, (callFunc g args).run Try.prog w = .ok (.enter g args) w) (hp : PredC Try.prog g lb w ok p) (hok : ∀ c ∈ l, ok c) :
    Calls Try.prog 96 #[.slice a n cap, .func (.func g) #[] lb] w fun e w' => e = .returned (.int .i64 (idxP p l 0)) ∧ Below w.heap.size w w' := by
  have HN := hid hn
  have HH := hid H
  have HP := hid hp
  have HO := hid hok
  clear hn H hp hok
  unfold maxLen at hm
  go_enter Try.func96, Try.ntmps96
  go_wp2
  go_loopw [8] (fun i wr => ∃ k : Nat, k ≤ n ∧ i = .int .i64 k ∧ Below w.heap.size w wr ∧ ∀ i y, i < k → l[i]? = some y → p y = false) (fun i _ => n - (intOf i).toNat)
  case atStart => exact ⟨0, Nat.zero_le _, rfl, Below.refl _ _, fun i y h => by omega⟩
  case round =>
    obtain ⟨k, hk, rfl, hb, hno⟩ := hrel
    have HNO := hid hno
    clear hno
    by_cases hlt : k < n
    · have hkl : k < l.length := by rw [HN.out]; exact hlt
      obtain ⟨b, off, ra, rn, rc, rfl, hbs, h0, h1, h2, hrn, hrm, hri⟩ := (HH.out.below hb) k hkl
      have HV := hid (show CelV wr (.agg #[.slice ra rn rc, .int .i64 l[k].lo, .int .i64 l[k].hi]) l[k] from ⟨ra, rn, rc, rfl, hrn, hrm, hri⟩)
      have HR := hid hrn
      clear hrn hri
      have HK := hid (List.getElem?_eq_getElem hkl)
      cases hpx : p l[k]
      · go_wp2_with (refine (HP.out _ _ _ (HO.out _ (List.getElem_mem hkl)) hb HV.out).mono ?_; rintro e w1 ⟨rfl, hb1⟩)
        refine ⟨⟨k + 1, by omega, by go_num, chain hb hb1, ?_⟩, by simp [intOf]; omega⟩
        intro i y hi hy
        by_cases e : i = k
        · subst e; rw [HK.out] at hy; cases hy; exact hpx
        · exact HNO.out i y (by omega) hy
      · go_wp2_with (refine (HP.out _ _ _ (HO.out _ (List.getElem_mem hkl)) hb HV.out).mono ?_; rintro e w1 ⟨rfl, hb1⟩)
        go_ret
        refine ⟨ret_int ?_, chain hb hb1⟩
        rw [idxP_at p l 0 k _ HK.out hpx HNO.out]; simp
    · go_wp2
      go_ret
      refine ⟨ret_int ?_, hb⟩
      rw [idxP_neg]
      intro x hx
      obtain ⟨i, hi, e⟩ := List.getElem_of_mem hx
      exact HNO.out i x (by have := HN.out; omega) (by rw [List.getElem?_eq_getElem hi, e])

theorem containsC (w : World) (a : Option Addr) (n cap : Nat) (l : List Cel) (hn : l.length = n) (hm : n ≤ maxLen) (H : CellsAt w a l) (g : Nat) (lb : Array Value) (ok : Cel → Prop) (p : Cel → Bool)
    (eg : ∀ args w, (callFunc g args).run Try.prog w = .ok (.enter g args) w) (hp : PredC Try.prog g lb w ok p) (hok : ∀ c ∈ l, ok c) :
    Calls Try.prog 61 #[.slice a n cap, .func (.func g) #[] lb] w fun e w' => e = .returned (.bool (l.any p)) ∧ Below w.heap.size w w' := by
  have HC := hid (indexC w a n cap l hn hm H g lb ok p eg hp hok)
  have HG := idxP_ge p l 0
  have HG' := hid HG
  clear hn H hp HG hok
  go_enter Try.func61, Try.ntmps61
  go_wp2_with (refine HC.out.mono ?_; rintro e w1 ⟨rfl, hb1⟩)
  go_ret
  refine ⟨ret_bool ?_, hb1⟩
  rw [Bool.eq_iff_iff, decide_eq_true_iff, HG'.out]

/-- a field that is valid -/
def okField (p t : Int) : Bool := inB p 1 8 && inB t 0 3
/-- a cell that is valid for so many pixels -/
def okCell (pixels : Int) (c : Cel) : Bool := okRow pixels c.row && inB c.lo (-100) c.hi && decide (c.hi ≤ 100)
def okCells (p t : Int) (l : List Cel) : Bool := okField p t && decide (l.length ≤ 30) && l.all (okCell p)

theorem validField_c (p t : Int) (w : World) : Calls Try.prog 19 #[.agg #[.int .i64 p, .int .i64 t]] w fun e w' => e = .returned (.bool (okField p t)) ∧ Below w.heap.size w w' := by
  cases h1 : inB p 1 8
  all_goals
    go_enter Try.func19, Try.ntmps19
    go_wp2_with (go_at_call 59; refine (within_c _ _ _ _).mono ?_; rintro e w1 ⟨rfl, rfl⟩)
    go_ret
    exact ⟨ret_bool (by simp [okField, h1]), (Below.refl _ _).alloc (Nat.le_refl _) _⟩

theorem refValidField_c (p t : Int) (w : World) : Calls Try.prog 20 #[.agg #[.int .i64 p, .int .i64 t]] w fun e w' => e = .returned (.bool (okField p t)) ∧ Below w.heap.size w w' := by
  cases h1 : inB p 1 8
  all_goals
    go_enter Try.func20, Try.ntmps20
    go_wp2_with (go_at_call 60; refine (in_c _ _ _ _).mono ?_; rintro e w1 ⟨rfl, rfl⟩)
    go_ret
    exact ⟨ret_bool (by simp [okField, h1]), (Below.refl _ _).alloc (Nat.le_refl _) _⟩

theorem validCell_c (w : World) (pixels : Int) (v : Value) (c : Cel) (hv : CelV w v c) :
    Calls Try.prog 63 #[.int .i64 pixels, v] w fun e w' => e = .returned (.bool (okCell pixels c)) ∧ Below w.heap.size w w' := by
  obtain ⟨ra, rn, rc, rfl, hrn, hrm, hri⟩ := hv
  have hb0 : Below w.heap.size w (w.alloc (.cells #[.slice ra rn rc, .int .i64 c.lo, .int .i64 c.hi] 41)) := (Below.refl _ _).alloc (Nat.le_refl _) _
  have HC := hid (validRow_c (w.alloc (.cells #[.slice ra rn rc, .int .i64 c.lo, .int .i64 c.hi] 41)) pixels ra rn rc c.row hrn hrm (hri.below hb0))
  clear hrn hri
  cases h1 : okRow pixels c.row <;> cases h2 : inB c.lo (-100) c.hi
  all_goals
    go_enter Try.func63, Try.ntmps63
    go_wp2_with (first | (go_at_call 58; refine HC.out.mono ?_; rintro e w1 ⟨rfl, hb1⟩; obtain ⟨hc1, hf1⟩ := bcell hb1) | (go_at_call 59; refine (within_c _ _ _ _).mono ?_; rintro e w1 ⟨rfl, rfl⟩))
    go_ret
    exact ⟨ret_bool (by simp [okCell, h1, h2]), chain hb0 hb1⟩
end Go.Proofs.Ytdcflpfaaeijoaa
