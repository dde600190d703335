/- Walks of package bit and of its reference: the small functions. -/
import Derived.Test.YtdcflpfaaeijoaaBase
namespace Go.Proofs.Ytdcflpfaaeijoaa
open Go.RowKit
set_option linter.unusedVariables false

theorem indexI (w : World) (a : Option Addr) (n cap : Nat) (l : List Int) (hn : l.length = n) (hm : n ≤ maxLen) (H : IntsAt w a l) (g : Nat) (lb : Array Value) (p : Int → Bool)
    (eg : ∀ args w, (callFunc g args).run Try.prog w = .ok (.enter g args) w) (hp : PredI Try.prog g lb w p) :
    Calls Try.prog 103 #[.slice a n cap, .func (.func g) #[] lb] w fun e w' => e = .returned (.int .i64 (idxP p l 0)) ∧ Below w.heap.size w w' := by
  have HN := hid hn
  have HH := hid H
  have HP := hid hp
  clear hn H hp
  unfold maxLen at hm
  go_enter Try.func103, Try.ntmps103
  go_wp2
  go_loopw [8] (fun i wr => ∃ k : Nat, k ≤ n ∧ i = .int .i64 k ∧ Below w.heap.size w wr ∧ ∀ i y, i < k → l[i]? = some y → p y = false) (fun i _ => n - (intOf i).toNat)
  case atStart => exact ⟨0, Nat.zero_le _, rfl, Below.refl _ _, fun i y h => by omega⟩
  case round =>
    obtain ⟨k, hk, rfl, hb, hno⟩ := hrel
    have HNO := hid hno
    clear hno
    by_cases hlt : k < n
    · obtain ⟨b, off, rfl, hbs, hc⟩ := (HH.out.below hb) k (by rw [HN.out]; exact hlt)
      have hkk := getD_lt (l := l) (k := k) (by rw [HN.out]; exact hlt)
      have HK := hid hkk
      clear hkk
      cases hpx : p (l[k]?.getD 0)
      · go_wp2_with (refine (HP.out _ _ hb).mono ?_; rintro e w1 ⟨rfl, hb1⟩)
        refine ⟨⟨k + 1, by omega, by go_num, chain hb hb1, ?_⟩, by simp [intOf]; omega⟩
        intro i y hi hy
        by_cases e : i = k
        · subst e; rw [HK.out] at hy; cases hy; exact hpx
        · exact HNO.out i y (by omega) hy
      · go_wp2_with (refine (HP.out _ _ hb).mono ?_; rintro e w1 ⟨rfl, hb1⟩)
        go_ret
        refine ⟨ret_int ?_, chain hb hb1⟩
        rw [idxP_at p l 0 k _ HK.out hpx HNO.out]; simp
    · go_wp2
      go_ret
      refine ⟨ret_int ?_, hb⟩
      rw [idxP_neg]
      intro x hx
      obtain ⟨i, hi, e⟩ := List.getElem_of_mem hx
      exact HNO.out i x (by have := HN.out; omega) (by rw [List.getElem?_eq_getElem hi, e])

theorem containsI (w : World) (a : Option Addr) (n cap : Nat) (l : List Int) (hn : l.length = n) (hm : n ≤ maxLen) (H : IntsAt w a l) (g : Nat) (lb : Array Value) (p : Int → Bool)
    (eg : ∀ args w, (callFunc g args).run Try.prog w = .ok (.enter g args) w) (hp : PredI Try.prog g lb w p) :
    Calls Try.prog 94 #[.slice a n cap, .func (.func g) #[] lb] w fun e w' => e = .returned (.bool (l.any p)) ∧ Below w.heap.size w w' := by
  have HC := hid (indexI w a n cap l hn hm H g lb p eg hp)
  have HG := idxP_ge p l 0
  have HG' := hid HG
  clear hn H hp HG
  go_enter Try.func94, Try.ntmps94
  go_wp2_with (refine HC.out.mono ?_; rintro e w1 ⟨rfl, hb1⟩)
  go_ret
  refine ⟨ret_bool ?_, hb1⟩
  rw [Bool.eq_iff_iff, decide_eq_true_iff, HG'.out]

/-- 'n >= lo && n <= hi' -/
def inB (n lo hi : Int) : Bool := decide (lo ≤ n) && decide (n ≤ hi)

theorem within_c (n lo hi : Int) (w : World) : Calls Try.prog 59 #[.int .i64 n, .int .i64 lo, .int .i64 hi] w fun e w' => e = .returned (.bool (inB n lo hi)) ∧ w = w' := by
  by_cases h1 : lo ≤ n <;> by_cases h2 : n ≤ hi
  all_goals
    go_enter Try.func59, Try.ntmps59
    go_wp2
    go_ret
    exact ⟨ret_bool (by simp [inB, h1, h2]), rfl⟩

theorem in_c (n lo hi : Int) (w : World) : Calls Try.prog 60 #[.int .i64 n, .int .i64 lo, .int .i64 hi] w fun e w' => e = .returned (.bool (inB n lo hi)) ∧ w = w' := by
  by_cases h1 : lo ≤ n <;> by_cases h2 : n ≤ hi
  all_goals
    go_enter Try.func60, Try.ntmps60
    go_wp2
    go_ret
    exact ⟨ret_bool (by simp [inB, h1, h2]), rfl⟩

theorem validRow1 (w : World) : PredI Try.prog 95 #[] w (fun n => !inB n (-1) 1) := by
  intro x W hb
  go_enter Try.func95, Try.ntmps95
  go_wp2_with (go_at_call 59; refine (within_c _ _ _ _).mono ?_; rintro e w1 ⟨rfl, rfl⟩)
  go_ret
  exact ⟨rfl, Below.refl _ _⟩

/-- a row of so many pixels -/
def okRow (pixels : Int) (l : List Int) : Bool := decide ((l.length : Int) = pixels) && l.all (fun n => inB n (-1) 1)

theorem validRow_c (w : World) (pixels : Int) (a : Option Addr) (n cap : Nat) (l : List Int) (hn : l.length = n) (hm : n ≤ maxLen) (H : IntsAt w a l) :
    Calls Try.prog 58 #[.int .i64 pixels, .slice a n cap] w fun e w' => e = .returned (.bool (okRow pixels l)) ∧ Below w.heap.size w w' := by
  have HC := hid (containsI w a n cap l hn hm H 95 #[] _ (enters_of Try.func95 (by kernel_rfl) rfl) (validRow1 w))
  have HN := hid hn
  clear hn H
  by_cases h : (n : Int) = pixels
  · have h' : ((n : Int) == pixels) = true := by simp [h]
    have HQ := hid h
    clear h
    go_enter Try.func58, Try.ntmps58
    go_wp2_with (refine HC.out.mono ?_; rintro e w1 ⟨rfl, hb1⟩)
    go_ret
    refine ⟨ret_bool ?_, hb1⟩
    unfold okRow; rw [HN.out, decide_eq_true HQ.out]; simp [List.all_eq_not_any_not]
  · have h' : ((n : Int) == pixels) = false := by simp [h]
    go_enter Try.func58, Try.ntmps58
    go_wp2
    go_ret
    refine ⟨ret_bool ?_, Below.refl _ _⟩
    unfold okRow; rw [HN.out, decide_eq_false h]; simp
end Go.Proofs.Ytdcflpfaaeijoaa
