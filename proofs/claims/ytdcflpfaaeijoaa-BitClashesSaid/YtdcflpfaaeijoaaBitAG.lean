/- SameCells; what a play is; the function value that Play hands to DeleteFunc. -/
import Derived.Test.YtdcflpfaaeijoaaBitAF
import Derived.Test.YtdcflpfaaeijoaaLift
namespace Go.Proofs.Ytdcflpfaaeijoaa
open Go.RowKit Go.Maps
set_option linter.unusedVariables false

set_option maxRecDepth 100000 in
theorem sameCells_c (w : World) (a b : Option Addr) (n c c' : Nat) (l : List Cel) (hn : l.length = n) (hm : n ≤ maxLen) (H : CellsAt w a l) (H2 : CellsAt w b l) :
    Calls Try.prog 51 #[.slice a n c, .slice b n c'] w fun e w' => e = .returned (.bool true) ∧ Below w.heap.size w w' := by
  have HN := hid hn
  have HH := hid H
  have HH2 := hid H2
  clear hn H H2
  unfold maxLen at hm
  go_enter Try.func51, Try.ntmps51
  go_wp2
  go_loopw [13] (fun i wr => ∃ k : Nat, k ≤ n ∧ i = .int .i64 k ∧ Below w.heap.size w wr) (fun i _ => n - (intOf i).toNat)
  case atStart => exact ⟨0, Nat.zero_le _, rfl, Below.refl _ _⟩
  case round =>
    obtain ⟨k, hk, rfl, hb⟩ := hrel
    by_cases hlt : k < n
    · have hkl : k < l.length := by rw [HN.out]; exact hlt
      obtain ⟨b1, off1, ra, rn, rc, rfl, hbs, h0, h1, h2, hrn, hrm, hri⟩ := HH.out.below hb k hkl
      obtain ⟨b2, off2, ra', rn', rc', rfl, hbs', h0', h1', h2', hrn', hrm', hri'⟩ := HH2.out.below hb k hkl
      have HS := hid (fun X => sameCell_c (lift wr X) (.agg #[.slice ra rn rc, .int .i64 l[k].lo, .int .i64 l[k].hi]) (.agg #[.slice ra' rn' rc', .int .i64 l[k].lo, .int .i64 l[k].hi]) l[k]
        ⟨ra, rn, rc, rfl, hrn, hrm, hri.below (lift_below wr X)⟩ ⟨ra', rn', rc', rfl, hrn', hrm', hri'.below (lift_below wr X)⟩)
      have l0 := lift_cell hbs h0
      have l1 := lift_cell hbs h1
      have l2 := lift_cell hbs h2
      have l3 := lift_cell hbs' h0'
      have l4 := lift_cell hbs' h1'
      have l5 := lift_cell hbs' h2'
      clear hrn hri hrn' hri' h0 h1 h2 h0' h1' h2' hrm hrm'
      go_wp2
      refine region_lift (by kernel_rfl) (by kernel_rfl) ?_
      repeat (go_big_quiet_step ((go_at_call 31; exact lift_calls (HS.out _))))
      refine wpQuiet_nil ?_
      rintro _ ⟨X, rfl⟩
      have hbl := hid (lift_below wr X)
      clear l0 l1 l2 l3 l4 l5 HS
      obtain ⟨w9, hw9⟩ : ∃ w9, w9 = lift wr X := ⟨_, rfl⟩
      rw [← hw9] at hbl ⊢
      clear hw9
      go_wp2
      exact ⟨⟨k + 1, by omega, by go_num, chain hb hbl.out⟩, meas hlt⟩
    · go_wp2
      go_ret
      exact ⟨rfl, hb⟩

/-- the cell that is asked next, if there is one -/
def playStep (p t : Nat) (ls : List (List Int)) (x : List Int) (out : List Cel) : Option Cel :=
  if (fitting p t out).length ≤ 1 ∨ rL (fitting p t out) ls (bestR (fitting p t out) ls (ls.length - 1)) = 0 then none
  else some (bitC (ls[bestR (fitting p t out) ls (ls.length - 1)]?.getD []) x (rT (fitting p t out) ls (bestR (fitting p t out) ls (ls.length - 1))))
def playN (p t : Nat) (ls : List (List Int)) (x : List Int) : Nat → List Cel → List Cel
  | 0, out => out
  | k + 1, out => match playStep p t ls x out with
    | none => out
    | some c => playN p t ls x k (out ++ [c])
def playE (p t : Int) (ls : List (List Int)) (x : List Int) (most : Int) : Int :=
  if okField p t && rowsOk p ls then (if picE p t x = 0 then (if inB ls.length 1 20 && inB most 0 30 then 0 else 7) else picE p t x) else 1
def playV (p t : Int) (ls : List (List Int)) (x : List Int) (most : Int) : List Cel := if playE p t ls x most = 0 then playN p.toNat t.toNat ls x most.toNat [] else []

theorem playN_none {p t : Nat} {ls : List (List Int)} {x : List Int} {k : Nat} {out : List Cel} (h : playStep p t ls x out = none) : playN p t ls x k out = out := by
  cases k with
  | zero => rfl
  | succ k => unfold playN; rw [h]
theorem playN_some {p t : Nat} {ls : List (List Int)} {x : List Int} {k : Nat} {out : List Cel} {c : Cel} (hk : 0 < k) (h : playStep p t ls x out = some c) : playN p t ls x k out = playN p t ls x (k - 1) (out ++ [c]) := by
  obtain ⟨k', rfl⟩ : ∃ k', k = k' + 1 := ⟨k - 1, by omega⟩
  rw [playN, h]; rfl
theorem okCells_nil (p t : Int) : okCells p t [] = okField p t := by simp [okCells]
theorem rG_rL (F rows : List (List Int)) (k : Nat) : rG F rows k + rL F rows k = F.length := by
  unfold rG rL
  have h := count_two (rsum F rows k) (rT F rows k)
  have h2 : (rsum F rows k).length = F.length := by simp [rsum]
  unfold grT leT
  split <;> split <;> omega
theorem rT_in (F rows : List (List Int)) (k : Nat) : -99 ≤ rT F rows k ∧ rT F rows k ≤ 100 := by
  have := bestT_in (rsum F rows k) 199
  unfold rT; omega
theorem bitC_row (row x : List Int) (thr : Int) : (bitC row x thr).row = row := by unfold bitC; split <;> rfl

theorem filter_not (F : List (List Int)) (c : Cel) : F.filter (fun y => !(!fitC y c)) = F.filter (fun y => fitC y c) := by
  congr 1; funext y; simp

theorem play1 (w : World) (bc b0 : Nat) (c : Cel) (ra : Option Addr) (rn rc : Nat) (hbc : bc ≠ b0) (hlt : bc < w.heap.size)
    (h0 : w.heap[bc]? = some (.cells #[.slice ra rn rc, .int .i64 c.lo, .int .i64 c.hi] 41 (0, 0)))
    (hrn : c.row.length = rn) (hrm : rn ≤ maxLen) (hri : IntsAt w ra c.row) (hsep : c.row = [] ∨ ∀ ad, ra = some ad → ad.block ≠ b0) :
    PredK Try.prog 92 #[.pointer (some ⟨bc, 0, none⟩)] (fun k => k ≠ b0) w (fun y => c.row.length ≤ y.length) (fun y => !fitC y c) := by
  intro y v W hle hk hv
  obtain ⟨ya, yn, yc, rfl, hyn, hym, hyi⟩ := hv
  have hW0 := (hk.block bc hlt hbc).trans h0
  obtain ⟨c0, c1, c2, cf⟩ := cell3_get hW0
  have hriW : IntsAt W ra c.row := by
    intro j hj
    obtain ⟨b, off, e, hb, hc⟩ := hri j hj
    rcases hsep with h | h
    · rw [h] at hj; simp at hj
    · exact ⟨b, off, e, Nat.lt_of_lt_of_le hb hk.size, hk.cell hc (h _ e)⟩
  have HC := hid (bitIn_c W (.agg #[.slice ra rn rc, .int .i64 c.lo, .int .i64 c.hi]) c ⟨ra, rn, rc, rfl, hrn, hrm, hriW⟩ ya yn yc y hyn (by omega) hyi)
  clear hrn hri hriW hyn hyi hW0 h0 hsep hk hle hbc
  go_enter Try.func92, Try.ntmps92
  go_wp2_with (go_at_call 81; refine HC.out.mono ?_; rintro e w1 ⟨rfl, hb2⟩)
  go_ret
  exact ⟨rfl, hb2⟩
end Go.Proofs.Ytdcflpfaaeijoaa
