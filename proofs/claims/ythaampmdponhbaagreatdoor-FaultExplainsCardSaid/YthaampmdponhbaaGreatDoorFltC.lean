/- Walks of package mask: shown, Shown, times, Read. -/
import Derived.Test.YthaampmdponhbaaGreatDoorFltB
import Derived.Test.YthaampmdponhbaaGreatDoorApp
namespace Go.Proofs.YthaampmdponhbaaGreatDoor
open Go.RowKit
set_option linter.unusedVariables false

theorem info_int : (Tryz.prog.info? 3).map (fun i => (i.zero, i.size, i.bytes)) = some (some (.int .i64 0), 1, 8) := by kernel_rfl
theorem info_ints : (Tryz.prog.info? 27).map (fun i => (i.zero, i.size, i.bytes)) = some (some (.slice none 0 0), 1, 24) := by kernel_rfl

theorem listed1 (w : World) (b : Nat) (hb : b < w.heap.size) (hc : w.cell? ⟨b, 0, none⟩ = some (.int .i64 1000000)) : PredI Tryz.prog 148 #[.pointer (some ⟨b, 0, none⟩)] w (fun n => inB n (-1000000) 1000000) := by
  intro x W hbw
  have hc' : W.cell? ⟨b, 0, none⟩ = some (.int .i64 1000000) := (hbw.cell (p := ⟨b, 0, none⟩) hb).trans hc
  go_enter Tryz.func148, Tryz.ntmps148
  go_wp2_with (go_at_call 94; refine (mwithin_c _ _ _ _).mono ?_; rintro e w1 ⟨rfl, rfl⟩)
  go_ret
  exact ⟨rfl, Below.refl _ _⟩

/-- the error of a shown picture -/
def shownE (M : Mask) (x : List Int) : Int := if okM M = true then (if x.length = colsM M then (if x.all (fun n => inB n (-1000000) 1000000) = true then 0 else 7) else 9) else 1
def okShown (M : Mask) (x : List Int) : Bool := okM M && decide (x.length = colsM M) && x.all (fun n => inB n (-1000000) 1000000)
theorem okShown_iff (M : Mask) (x : List Int) : (shownE M x == 0) = okShown M x := by
  unfold shownE okShown
  cases okM M <;> simp
  by_cases h : x.length = colsM M <;> simp [h]
  split
  · rename_i h2; simp; exact h2
  · rename_i h2; simp; simpa using h2

theorem listed_c (w : World) (a : Option Addr) (n cap : Nat) (M : Mask) (hn : M.length = n) (hm : n ≤ maxLen) (H : RowsAt w a M) (a2 : Option Addr) (n2 cap2 : Nat) (x : List Int) (hn2 : x.length = n2) (hm2 : n2 ≤ maxLen) (H2 : IntsAt w a2 x)
    (g : Nat) (lb : Array Value) (eg : ∀ args w, (callFunc g args).run Tryz.prog w = .ok (.enter g args) w) (hg : okM M = true → ∀ W, Below w.heap.size w W → Calls Tryz.prog g lb W fun e W' => e = .returned (.int .i64 (colsM M)) ∧ W = W') :
    Calls Tryz.prog 127 #[.slice a n cap, .slice a2 n2 cap2, .func (.func g) #[] lb, .int .i64 1000000] w fun e w' => e = .returned (.int .i64 (shownE M x)) ∧ Below w.heap.size w w' := by
  have hb0 : Below w.heap.size w (w.alloc (.cells #[.int .i64 1000000] 3)) := (Below.refl _ _).alloc (Nat.le_refl _) _
  have hmf : ∀ (fn : Fn) (first cap : Array Value) (w : World), (Instr.makeFunc fn first cap).run Tryz.prog w = .ok (.func fn first cap) w := fun _ _ _ _ => rfl
  have HV := hid (maskValid_c (w.alloc (.cells #[.int .i64 1000000] 3)) a n cap M hn hm (H.below hb0))
  have HA := hid (fun (W : World) (hb : Below w.heap.size w W) (hs : w.heap.size < W.heap.size) (hc : W.cell? ⟨w.heap.size, 0, none⟩ = some (.int .i64 1000000)) => allI_c W a2 n2 cap2 x hn2 hm2 (H2.below hb) 148 #[.pointer (some ⟨w.heap.size, 0, none⟩)] _ (enters_of Tryz.func148 (by kernel_rfl) rfl) (listed1 W w.heap.size hs hc))
  have hcell : ∀ W, Below (w.alloc (.cells #[.int .i64 1000000] 3)).heap.size (w.alloc (.cells #[.int .i64 1000000] 3)) W → w.heap.size < W.heap.size ∧ W.cell? ⟨w.heap.size, 0, none⟩ = some (.int .i64 1000000) := fun W hb => by
    have h1 := hb.size
    simp at h1
    refine ⟨by omega, (hb.cell (p := ⟨w.heap.size, 0, none⟩) (by simp)).trans ?_⟩
    rw [World.cell?_alloc_at _ _ _ _ rfl]; rfl
  have HC := hid hcell
  have HN2 := hid hn2
  have HG := hid hg
  have HB := hid hb0
  clear hn H H2 hcell hg hn2 hb0
  cases hv : okM M
  · rw [hv] at HV
    have HE := hid hv
    clear hv
    go_enter Tryz.func127, Tryz.ntmps127
    go_wp2_with (go_at_call 62; refine HV.out.mono ?_; rintro e w1 ⟨rfl, hb1⟩)
    go_ret
    exact ⟨ret_int (by unfold shownE; rw [HE.out]; simp), chain HB.out hb1⟩
  · rw [hv] at HV
    have HE := hid hv
    have HG2 := hid (HG.out hv)
    clear hv HG
    by_cases h : n2 = colsM M
    · have hd : ((n2 : Int) != (colsM M : Int)) = false := by simp [h]
      have HQ := hid h
      clear h
      cases hx : x.all (fun n => inB n (-1000000) 1000000)
      all_goals
        rw [hx] at HA
        have HX := hid hx
        clear hx
        go_enter Tryz.func127, Tryz.ntmps127
        go_wp2_with (first | (go_at_call 62; refine HV.out.mono ?_; rintro e w1 ⟨rfl, hb1⟩) | (go_at_call 124; refine (HA.out _ (chain HB.out hb1) (HC.out _ hb1).1 (HC.out _ hb1).2).mono ?_; rintro e w2 ⟨rfl, hb2⟩) | (refine (HG2.out _ (chain HB.out hb1)).mono ?_; rintro e w3 ⟨rfl, rfl⟩))
        go_ret
        exact ⟨ret_int (by unfold shownE; rw [HE.out, if_pos rfl, if_pos (HN2.out.trans HQ.out), HX.out]; simp), chain (chain HB.out hb1) hb2⟩
    · have hd : ((n2 : Int) != (colsM M : Int)) = true := by simp; omega
      have HQ := hid h
      clear h
      go_enter Tryz.func127, Tryz.ntmps127
      go_wp2_with (first | (go_at_call 62; refine HV.out.mono ?_; rintro e w1 ⟨rfl, hb1⟩) | (refine (HG2.out _ (chain HB.out hb1)).mono ?_; rintro e w3 ⟨rfl, rfl⟩))
      go_ret
      exact ⟨ret_int (by unfold shownE; rw [HE.out, if_pos rfl, if_neg (by rw [HN2.out]; exact HQ.out)]), chain HB.out hb1⟩

theorem okM_len {M : Mask} (h : okM M = true) : 1 ≤ M.length ∧ M.length ≤ 6 ∧ 1 ≤ colsM M ∧ colsM M ≤ 10 ∧ ∀ l ∈ M, l.length = colsM M ∧ ∀ n ∈ l, -1 ≤ n ∧ n ≤ 1 := by
  unfold okM at h
  simp only [Bool.and_eq_true, List.all_eq_true, decide_eq_true_eq] at h
  obtain ⟨h1, h2⟩ := h
  simp [inB] at h1
  have hr : ∀ l ∈ M, l.length = colsM M ∧ (1 ≤ l.length ∧ l.length ≤ 10) ∧ ∀ n ∈ l, -1 ≤ n ∧ n ≤ 1 := by
    intro l hl
    obtain ⟨e, hrow⟩ := h2 l hl
    unfold okMRow at hrow
    simp only [Bool.and_eq_true, List.all_eq_true] at hrow
    refine ⟨e, ?_, fun n hn => ?_⟩
    · have := hrow.1; simp [inB] at this; omega
    · have := hrow.2 n hn; simpa [inB] using this
  have h0 : 0 < M.length := by omega
  have hc := hr M[0] (List.getElem_mem h0)
  refine ⟨by omega, by omega, by omega, by omega, fun l hl => ⟨(hr l hl).1, (hr l hl).2.2⟩⟩

theorem shown1 (w : World) (b : Nat) (a : Option Addr) (n cap : Nat) (M : Mask) (hn : M.length = n) (hm : n ≤ maxLen) (H : RowsAt w a M) (hb : b < w.heap.size) (hc : w.cell? ⟨b, 0, none⟩ = some (.slice a n cap)) (h0 : 0 < n) (W : World) (hbw : Below w.heap.size w W) :
    Calls Tryz.prog 128 #[.pointer (some ⟨b, 0, none⟩)] W fun e W' => e = .returned (.int .i64 (colsM M)) ∧ W = W' := by
  have hc' : W.cell? ⟨b, 0, none⟩ = some (.slice a n cap) := (hbw.cell (p := ⟨b, 0, none⟩) hb).trans hc
  obtain ⟨b', off, qa, qn, qc, rfl, hbs, hq0, hqn, hqm, hqi⟩ := (H.below hbw) 0 (by omega)
  have HCols : colsM M = qn := by unfold colsM; rw [List.getElem?_eq_getElem (by omega), ← hqn]; rfl
  have HCO := hid HCols
  unfold maxLen at hm
  simp only [Nat.add_zero] at hq0
  clear HCols hqn hqi H hc
  go_enter Tryz.func128, Tryz.ntmps128
  go_wp2
  go_ret
  exact ⟨ret_int (by rw [HCO.out]), rfl⟩

theorem mshown_c (w : World) (a : Option Addr) (n cap : Nat) (M : Mask) (hn : M.length = n) (hm : n ≤ maxLen) (H : RowsAt w a M) (a2 : Option Addr) (n2 cap2 : Nat) (x : List Int) (hn2 : x.length = n2) (hm2 : n2 ≤ maxLen) (H2 : IntsAt w a2 x) :
    Calls Tryz.prog 106 #[.slice a n cap, .slice a2 n2 cap2] w fun e w' => e = .returned (.int .i64 (shownE M x)) ∧ Below w.heap.size w w' := by
  have hb0 : Below w.heap.size w (w.alloc (.cells #[.slice a n cap] 23)) := (Below.refl _ _).alloc (Nat.le_refl _) _
  have hmf : ∀ (fn : Fn) (first cap : Array Value) (w : World), (Instr.makeFunc fn first cap).run Tryz.prog w = .ok (.func fn first cap) w := fun _ _ _ _ => rfl
  have HL := hid (listed_c (w.alloc (.cells #[.slice a n cap] 23)) a n cap M hn hm (H.below hb0) a2 n2 cap2 x hn2 hm2 (H2.below hb0) 128 #[.pointer (some ⟨w.heap.size, 0, none⟩)] (enters_of Tryz.func128 (by kernel_rfl) rfl)
    (fun hk W hb => by
      have := okM_len hk
      exact shown1 _ w.heap.size a n cap M hn hm (H.below hb0) (by simp) (by rw [World.cell?_alloc_at _ _ _ _ rfl]; rfl) (by omega) W hb))
  clear hn H hn2 H2
  go_enter Tryz.func106, Tryz.ntmps106
  go_wp2_with (go_at_call 127; refine HL.out.mono ?_; rintro e w1 ⟨rfl, hb1⟩)
  go_ret
  exact ⟨rfl, chain hb0 hb1⟩

theorem maskShown_c (w : World) (a : Option Addr) (n cap : Nat) (M : Mask) (hn : M.length = n) (hm : n ≤ maxLen) (H : RowsAt w a M) (a2 : Option Addr) (n2 cap2 : Nat) (x : List Int) (hn2 : x.length = n2) (hm2 : n2 ≤ maxLen) (H2 : IntsAt w a2 x) :
    Calls Tryz.prog 77 #[.slice a n cap, .slice a2 n2 cap2] w fun e w' => e = .returned (.bool (okShown M x)) ∧ Below w.heap.size w w' := by
  have HL := hid (mshown_c w a n cap M hn hm H a2 n2 cap2 x hn2 hm2 H2)
  have HE := hid (okShown_iff M x)
  clear hn H hn2 H2
  obtain ⟨E, hE⟩ : ∃ E, E = shownE M x := ⟨_, rfl⟩
  rw [← hE] at HL HE
  clear hE
  go_enter Tryz.func77, Tryz.ntmps77
  go_wp2_with (go_at_call 106; refine HL.out.mono ?_; rintro e w1 ⟨rfl, hb1⟩)
  go_ret
  exact ⟨ret_bool (by rw [← HE.out]), hb1⟩

/-- the sum of a row times a picture, as Go's ints give it, of the first k numbers -/
def dotTo (row x : List Int) : Nat → Int
  | 0 => 0
  | k + 1 => wrap64 (dotTo row x k + wrap64 (row[k]?.getD 0 * x[k]?.getD 0))
def dotW (row x : List Int) : Int := dotTo row x row.length

theorem times_c (w : World) (a a2 : Option Addr) (n cap n2 cap2 : Nat) (row x : List Int) (hn : row.length = n) (hn2 : x.length = n2) (hle : n ≤ n2) (hm : n ≤ maxLen) (H : IntsAt w a row) (H2 : IntsAt w a2 x) :
    Calls Tryz.prog 107 #[.slice a n cap, .slice a2 n2 cap2] w fun e w' => e = .returned (.int .i64 (dotW row x)) ∧ w = w' := by
  have HN := hid hn
  have HN2 := hid hn2
  have HH := hid H
  have HH2 := hid H2
  clear hn hn2 H H2
  unfold maxLen at hm
  go_enter Tryz.func107, Tryz.ntmps107
  go_wp2
  go_loop [5, 10] (fun s i => ∃ k : Nat, k ≤ n ∧ i = .int .i64 k ∧ s = .int .i64 (dotTo row x k)) (fun _ i => n - (intOf i).toNat)
  case atStart => exact ⟨0, Nat.zero_le _, rfl, rfl⟩
  case round =>
    obtain ⟨k, hk, rfl, rfl⟩ := hrel
    by_cases hlt : k < n
    · obtain ⟨b, off, rfl, _, h1⟩ := HH.out k (by rw [HN.out]; exact hlt)
      obtain ⟨b2, off2, rfl, _, h2⟩ := HH2.out k (by rw [HN2.out]; omega)
      have h3 : k < n2 := by omega
      go_wp2
      go_round
      case rel => exact ⟨k + 1, by omega, by go_num, rfl⟩
      case measure => simp [intOf]; omega
    · have : k = n := by omega
      subst this
      go_wp2
      go_ret
      refine ⟨ret_int ?_, rfl⟩
      unfold dotW; rw [HN.out]

/-- what a mask reads of a picture -/
def readM (M : Mask) (x : List Int) : List Int := M.map (fun r => dotW r x)

theorem readM_take (M : Mask) (x : List Int) (k : Nat) (hk : k < M.length) : (readM (M.take (k + 1)) x) = readM (M.take k) x ++ [dotW M[k] x] := by
  unfold readM
  rw [List.take_succ_eq_append_getElem hk, List.map_append]; rfl

theorem one_int (x : Int) : ∀ u ∈ [Value.int .i64 x], u.oneCell' = true := by intro u hu; simp at hu; subst hu; rfl

set_option maxHeartbeats 2000000 in
theorem maskRead_c (w : World) (a : Option Addr) (n cap : Nat) (M : Mask) (hn : M.length = n) (hm : n ≤ maxLen) (H : RowsAt w a M) (a2 : Option Addr) (n2 cap2 : Nat) (x : List Int) (hn2 : x.length = n2) (hm2 : n2 ≤ maxLen) (H2 : IntsAt w a2 x) (hE : shownE M x = 0) :
    Calls Tryz.prog 79 #[.slice a n cap, .slice a2 n2 cap2] w fun e w' => ∃ v base, e = .returned (.tuple #[v, .int .i64 0]) ∧ w.heap.size ≤ base ∧ w'.ownsRow base 3 1 v n ((readM M x).map (Value.int .i64)) ∧ Below w.heap.size w w' := by
  have HS := hid (mshown_c w a n cap M hn hm H a2 n2 cap2 x hn2 hm2 H2)
  rw [hE] at HS
  have hok : okShown M x = true := by rw [← okShown_iff, hE]; rfl
  unfold okShown at hok
  simp only [Bool.and_eq_true, decide_eq_true_eq] at hok
  obtain ⟨⟨hM, hc⟩, _⟩ := hok
  obtain ⟨m1, m6, c1, c10, hrows⟩ := okM_len hM
  have hn6 : n ≤ 6 := by omega
  have HT := hid (fun (W : World) (hb : Below w.heap.size w W) (ra : Option Addr) (rn rc : Nat) (r : List Int) (hr : r ∈ M) (hrn : r.length = rn) (hri : IntsAt W ra r) => times_c W ra a2 rn rc n2 cap2 r x hrn hn2 (by have := (hrows r hr).1; omega) (by have := (hrows r hr).1; unfold maxLen; omega) hri (H2.below hb))
  have HN := hid hn
  have HH := hid H
  clear hn H hn2 H2 hrows hE hM hc m1 m6 c1 c10
  go_enter Tryz.func79, Tryz.ntmps79
  go_wp2_with (go_at_call 106; refine HS.out.mono ?_; rintro e w1 ⟨rfl, hb1⟩)
  go_loopw [7, 18] (fun v i wr => ∃ k : Nat, k ≤ n ∧ i = .int .i64 k ∧ wr.ownsRow w1.heap.size 3 1 v k ((readM (M.take k) x).map (Value.int .i64)) ∧ Below w1.heap.size w1 wr) (fun _ i _ => n - (intOf i).toNat)
  case atStart => exact ⟨0, Nat.zero_le _, rfl, World.ownsRow_nil _ _ _ _, Below.refl _ _⟩
  case round =>
    obtain ⟨k, hk, rfl, hown, hbk⟩ := hrel
    by_cases hlt : k < n
    · have hkM : k < M.length := by rw [HN.out]; exact hlt
      have hbw := chain hb1 hbk
      obtain ⟨b, off, ra, rn, rc, rfl, hbs, hq0, hrn, hrm, hri⟩ := (HH.out.below hbw) k hkM
      have HT1 := hid (HT.out wr hbw ra rn rc M[k] (List.getElem_mem hkM) hrn hri)
      obtain ⟨D, hD⟩ : ∃ D, D = dotW M[k] x := ⟨_, rfl⟩
      rw [← hD] at HT1
      have htk := readM_take M x k hkM
      rw [← hD] at htk
      have HTK := hid htk
      obtain ⟨va, vc, rfl⟩ := ownsRow_slice hown
      have HO := hid hown
      have M1 := hid (show k + 1 ≤ maxLen by unfold maxLen; omega)
      have M2 := hid (show (k + 1) * 8 ≤ 140737488355328 by omega)
      have M3 := hid (Nat.le_trans hbk.size (le_alloc wr (.cells #[.int .i64 D] 3)))
      clear hown htk hD hrn hri hkM
      go_wp2_with (first | (go_at_call 107; refine HT1.out.mono ?_; rintro e w2 ⟨rfl, rfl⟩) | (at_builtin; refine wpList_app _ rfl (.tmp 22) (.tmp 26) 27 rfl w1.heap.size 3 (.int .i64 0) 1 8 Tryz.underlying27 info_int rfl Nat.one_pos (.slice va k vc) k _ rfl (HO.out.alloc _) (some ⟨wr.heap.size, 0, none⟩) 1 1 [.int .i64 D] rfl rfl no_none (one_news wr _ _) (one_int _) M1.out M2.out M3.out ?_; refine Stop.of ?_))
      refine Stop.go ?_
      intro a3 c3 w3 own3 g3
      have hB3 : Below w1.heap.size w1 w3 := (hbk.alloc hbk.size _).grown g3 (Nat.le_trans hbk.size (le_alloc _ _)) (fun k hk => (HO.out.lt k hk).1)
      go_wp2
      refine ⟨⟨k + 1, by omega, by go_num, ?_, hB3⟩, by simp [intOf]; omega⟩
      rw [HTK.out]
      simpa using own3
    · obtain rfl : k = n := by omega
      go_wp2
      go_ret2
      refine ⟨_, w1.heap.size, rfl, hb1.size, ?_, chain hb1 hbk⟩
      rw [← HN.out, List.take_length] at hown
      rw [HN.out] at hown
      exact hown
end Go.Proofs.YthaampmdponhbaaGreatDoor
