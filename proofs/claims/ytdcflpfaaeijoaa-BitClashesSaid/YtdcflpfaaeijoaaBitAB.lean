/- Walks: rows, validRows. -/
import Derived.Test.YtdcflpfaaeijoaaBitAA
namespace Go.Proofs.Ytdcflpfaaeijoaa
open Go.RowKit Go.Maps
set_option linter.unusedVariables false

def ListV (w : World) (v : Value) (x : List Int) : Prop := ∃ ra n cap, v = .slice ra n cap ∧ x.length = n ∧ n ≤ maxLen ∧ IntsAt w ra x
def PredR (P : Program) (g : Nat) (lb : Array Value) (w : World) (p : List Int → Bool) : Prop :=
  ∀ (x : List Int) (v : Value) (W : World), Below w.heap.size w W → ListV W v x → Calls P g (#[v] ++ lb) W fun e W' => e = .returned (.bool (p x)) ∧ Below W.heap.size W W'

theorem indexR (w : World) (a : Option Addr) (n cap : Nat) (l : List (List Int)) (hn : l.length = n) (hm : n ≤ maxLen) (H : RowsAt w a l) (g : Nat) (lb : Array Value) (p : List Int → Bool)
    (eg : ∀ args w, (callFunc g args).run Try.prog w = .ok (.enter g args) w) (hp : PredR Try.prog g lb w p) :
    Calls Try.prog 102 #[.slice a n cap, .func (.func g) #[] lb] w fun e w' => e = .returned (.int .i64 (idxP p l 0)) ∧ Below w.heap.size w w' := by
  have HN := hid hn
  have HH := hid H
  have HP := hid hp
  clear hn H hp
  unfold maxLen at hm
  go_enter Try.func102, Try.ntmps102
  go_wp2
  go_loopw [8] (fun i wr => ∃ k : Nat, k ≤ n ∧ i = .int .i64 k ∧ Below w.heap.size w wr ∧ ∀ i y, i < k → l[i]? = some y → p y = false) (fun i _ => n - (intOf i).toNat)
  case atStart => exact ⟨0, Nat.zero_le _, rfl, Below.refl _ _, fun i y h => by omega⟩
  case round =>
    obtain ⟨k, hk, rfl, hb, hno⟩ := hrel
    have HNO := hid hno
    clear hno
    by_cases hlt : k < n
    · have hkl : k < l.length := by rw [HN.out]; exact hlt
      obtain ⟨b, off, ra, rn, rc, rfl, hbs, h0, hrn, hrm, hri⟩ := (HH.out.below hb) k hkl
      have HV := hid (show ListV wr (.slice ra rn rc) l[k] from ⟨ra, rn, rc, rfl, hrn, hrm, hri⟩)
      have HR := hid hrn
      clear hrn hri
      have HK := hid (List.getElem?_eq_getElem hkl)
      cases hpx : p l[k]
      · go_wp2_with (refine (HP.out _ _ _ hb HV.out).mono ?_; rintro e w1 ⟨rfl, hb1⟩)
        refine ⟨⟨k + 1, by omega, by go_num, chain hb hb1, ?_⟩, by simp [intOf]; omega⟩
        intro i y hi hy
        by_cases e : i = k
        · subst e; rw [HK.out] at hy; cases hy; exact hpx
        · exact HNO.out i y (by omega) hy
      · go_wp2_with (refine (HP.out _ _ _ hb HV.out).mono ?_; rintro e w1 ⟨rfl, hb1⟩)
        go_ret
        refine ⟨ret_int ?_, chain hb hb1⟩
        rw [idxP_at p l 0 k _ HK.out hpx HNO.out]; simp
    · go_wp2
      go_ret
      refine ⟨ret_int ?_, hb⟩
      rw [idxP_neg]
      intro x hx
      obtain ⟨i, hi, e⟩ := List.getElem_of_mem hx
      exact HNO.out i x (by have := HN.out; omega) (by rw [List.getElem?_eq_getElem hi, e])

theorem containsR (w : World) (a : Option Addr) (n cap : Nat) (l : List (List Int)) (hn : l.length = n) (hm : n ≤ maxLen) (H : RowsAt w a l) (g : Nat) (lb : Array Value) (p : List Int → Bool)
    (eg : ∀ args w, (callFunc g args).run Try.prog w = .ok (.enter g args) w) (hp : PredR Try.prog g lb w p) :
    Calls Try.prog 101 #[.slice a n cap, .func (.func g) #[] lb] w fun e w' => e = .returned (.bool (l.any p)) ∧ Below w.heap.size w w' := by
  have HC := hid (indexR w a n cap l hn hm H g lb p eg hp)
  have HG := idxP_ge p l 0
  have HG' := hid HG
  clear hn H hp HG
  go_enter Try.func101, Try.ntmps101
  go_wp2_with (refine HC.out.mono ?_; rintro e w1 ⟨rfl, hb1⟩)
  go_ret
  refine ⟨ret_bool ?_, hb1⟩
  rw [Bool.eq_iff_iff, decide_eq_true_iff, HG'.out]

theorem rows1 (w : World) (p : Int) (b : Nat) (hb : b < w.heap.size) (hc : w.cell? ⟨b, 0, none⟩ = some (.int .i64 p)) :
    PredR Try.prog 100 #[.pointer (some ⟨b, 0, none⟩)] w (fun x => !okRow p x) := by
  intro x v W hbw hv
  have hcW : W.cell? ⟨b, 0, none⟩ = some (.int .i64 p) := (hbw.cell (p := ⟨b, 0, none⟩) hb).trans hc
  obtain ⟨ra, rn, rc, rfl, hrn, hrm, hri⟩ := hv
  have HC := hid (validRow_c W p ra rn rc x hrn hrm hri)
  clear hrn hri
  go_enter Try.func100, Try.ntmps100
  go_wp2_with (go_at_call 58; refine HC.out.mono ?_; rintro e w1 ⟨rfl, hb2⟩)
  go_ret
  exact ⟨rfl, hb2⟩

def rowsOk (p : Int) (ls : List (List Int)) : Bool := ls.all (okRow p)
/-- the error of a field, cells and rows -/
def rowsE (p t : Int) (l : List Cel) (ls : List (List Int)) : Int := if okCells p t l && rowsOk p ls then (if inB ls.length 1 20 then 0 else 7) else 1

theorem rows_c (w : World) (p t : Int) (a : Option Addr) (n cap : Nat) (l : List Cel) (hn : l.length = n) (hm : n ≤ maxLen) (H : CellsAt w a l)
    (a2 : Option Addr) (n2 cap2 : Nat) (ls : List (List Int)) (hn2 : ls.length = n2) (hm2 : n2 ≤ maxLen) (H2 : RowsAt w a2 ls) :
    Calls Try.prog 87 #[.agg #[.int .i64 p, .int .i64 t], .slice a n cap, .slice a2 n2 cap2] w fun e w' => e = .returned (.int .i64 (rowsE p t l ls)) ∧ Below w.heap.size w w' := by
  obtain ⟨wf, hwf⟩ : ∃ wf, wf = w.alloc (.cells #[.int .i64 p, .int .i64 t] 23) := ⟨_, rfl⟩
  have hb0 : Below w.heap.size w wf := by rw [hwf]; exact (Below.refl _ _).alloc (Nat.le_refl _) _
  have hz : w.heap.size < wf.heap.size := by rw [hwf]; simp
  have hc0 : wf.cell? ⟨w.heap.size, 0, none⟩ = some (.int .i64 p) := by rw [hwf, World.cell?_alloc_at _ _ _ _ rfl]; rfl
  have eg := enters_of Try.func100 (by kernel_rfl) rfl
  have HV := hid (validCells_c wf p t a n cap l hn hm (H.below hb0))
  have HC := hid (fun (W : World) (hb : Below wf.heap.size wf W) => containsR W a2 n2 cap2 ls hn2 hm2 (H2.below (chain hb0 hb)) 100 #[.pointer (some ⟨w.heap.size, 0, none⟩)] (fun x => !okRow p x) eg (rows1 W p w.heap.size (Nat.lt_of_lt_of_le hz hb.size) ((hb.cell (p := ⟨w.heap.size, 0, none⟩) hz).trans hc0)))
  have hany : ls.any (fun x => !okRow p x) = !rowsOk p ls := by simp [rowsOk, List.all_eq_not_any_not]
  rw [hany] at HC
  have HN2 := hid hn2
  unfold maxLen at hm2
  clear hn H hn2 H2 eg hany hz hc0 hm
  have hmf : ∀ (fn : Fn) (first cap : Array Value) (w : World), (Instr.makeFunc fn first cap).run Try.prog w = .ok (.func fn first cap) w := fun _ _ _ _ => rfl
  cases h1 : okCells p t l
  · rw [h1] at HV
    go_enter Try.func87, Try.ntmps87
    go_wp2_with fail
    rw [← hwf]
    clear hwf
    refine HV.out.mono ?_
    rintro e w1 ⟨rfl, hb1⟩
    go_wp2
    go_ret
    exact ⟨ret_int (by simp [rowsE, h1]), chain hb0 hb1⟩
  rw [h1] at HV
  cases h2 : rowsOk p ls
  all_goals
    rw [h2] at HC
    cases h3 : inB (n2 : Int) 1 20
  all_goals
    go_enter Try.func87, Try.ntmps87
    go_wp2_with fail
    rw [← hwf]
    clear hwf
    refine HV.out.mono ?_
    rintro e w1 ⟨rfl, hb1⟩
    go_wp2_with (first | (go_at_call 101; refine (HC.out _ hb1).mono ?_; rintro e w2 ⟨rfl, hb2⟩) | (go_at_call 59; refine (within_c _ _ _ _).mono ?_; rintro e w3 ⟨rfl, rfl⟩))
    go_ret
    exact ⟨ret_int (by simp [rowsE, h1, h2, h3, HN2.out]), chain hb0 (chain hb1 hb2)⟩

theorem validRows_c (w : World) (p t : Int) (a2 : Option Addr) (n2 cap2 : Nat) (ls : List (List Int)) (hn2 : ls.length = n2) (hm2 : n2 ≤ maxLen) (H2 : RowsAt w a2 ls) :
    Calls Try.prog 89 #[.agg #[.int .i64 p, .int .i64 t], .slice a2 n2 cap2] w fun e w' => e = .returned (.bool (rowsOk p ls)) ∧ Below w.heap.size w w' := by
  obtain ⟨wf, hwf⟩ : ∃ wf, wf = w.alloc (.cells #[.int .i64 p, .int .i64 t] 23) := ⟨_, rfl⟩
  have hb0 : Below w.heap.size w wf := by rw [hwf]; exact (Below.refl _ _).alloc (Nat.le_refl _) _
  have hz : w.heap.size < wf.heap.size := by rw [hwf]; simp
  have hc0 : wf.cell? ⟨w.heap.size, 0, none⟩ = some (.int .i64 p) := by rw [hwf, World.cell?_alloc_at _ _ _ _ rfl]; rfl
  have HN := hid hn2
  have HH := hid H2
  unfold maxLen at hm2
  clear hn2 H2
  go_enter Try.func89, Try.ntmps89
  go_wp2
  rw [← hwf]
  clear hwf
  go_loopw [9] (fun i wr => ∃ k : Nat, k ≤ n2 ∧ i = .int .i64 k ∧ Below wf.heap.size wf wr ∧ ∀ j (hj : j < ls.length), j < k → okRow p ls[j] = true) (fun i _ => n2 - (intOf i).toNat)
  case atStart => exact ⟨0, Nat.zero_le _, rfl, Below.refl _ _, fun i _ h => by omega⟩
  case round =>
    obtain ⟨k, hk, rfl, hb, hno⟩ := hrel
    have HNO := hid hno
    clear hno
    have hcr : wr.cell? ⟨w.heap.size, 0, none⟩ = some (.int .i64 p) := (hb.cell (p := ⟨w.heap.size, 0, none⟩) hz).trans hc0
    by_cases hlt : k < n2
    · have hkl : k < ls.length := by rw [HN.out]; exact hlt
      obtain ⟨b, off, ra, rn, rc, rfl, hbs, h0, hrn, hrm, hri⟩ := (HH.out.below (chain hb0 hb)) k hkl
      have HV := hid (refValidRow_c wr p ra rn rc ls[k] hrn hrm hri)
      clear hrn hri hc0
      cases hpx : okRow p ls[k]
      · rw [hpx] at HV
        go_wp2_with (go_at_call 93; refine HV.out.mono ?_; rintro e w1 ⟨rfl, rfl⟩)
        go_ret
        refine ⟨ret_bool ?_, chain hb0 hb⟩
        unfold rowsOk
        symm
        rw [List.all_eq_false]
        exact ⟨ls[k], List.getElem_mem _, by simp [hpx]⟩
      · rw [hpx] at HV
        go_wp2_with (go_at_call 93; refine HV.out.mono ?_; rintro e w1 ⟨rfl, rfl⟩)
        refine ⟨⟨k + 1, by omega, by go_num, hb, ?_⟩, by simp [intOf]; omega⟩
        intro j hj hjk
        by_cases e : j = k
        · subst e; exact hpx
        · exact HNO.out j hj (by omega)
    · go_wp2
      go_ret
      refine ⟨ret_bool ?_, chain hb0 hb⟩
      unfold rowsOk; exact (allC_done (fun j hj => HNO.out j hj (by have := HN.out; omega))).symm
end Go.Proofs.Ytdcflpfaaeijoaa
