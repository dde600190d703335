/- Walks: counts, the reference's pictures, the guards of the laws. -/
import Derived.Test.YtdcflpfaaeijoaaBitJ
namespace Go.Proofs.Ytdcflpfaaeijoaa
open Go.RowKit
set_option linter.unusedVariables false

def countV (p t : Int) (l : List Cel) : Int := if okCells p t l then ((fitting p.toNat t.toNat l).length : Int) else 0
def cellsE (p t : Int) (l : List Cel) : Int := if okCells p t l then 0 else 1

theorem okCells_bd {p t : Int} {l : List Cel} (h : okCells p t l = true) : okField p t = true ∧ ∀ c ∈ l, c.row.length ≤ p.toNat := by
  simp only [okCells, Bool.and_eq_true, decide_eq_true_eq, List.all_eq_true] at h
  refine ⟨h.1.1, fun c hc => ?_⟩
  have := h.2 c hc
  simp only [okCell, okRow, Bool.and_eq_true, decide_eq_true_eq] at this
  have := this.1.1.1
  omega

theorem count_c (w : World) (p t : Int) (a : Option Addr) (n cap : Nat) (l : List Cel) (hn : l.length = n) (hm : n ≤ maxLen) (H : CellsAt w a l) :
    Calls Try.prog 23 #[.agg #[.int .i64 p, .int .i64 t], .slice a n cap] w fun e w' => e = .returned (.tuple #[.int .i64 (countV p t l), .int .i64 (cellsE p t l)]) ∧ Below w.heap.size w w' := by
  have hb0 : Below w.heap.size w (w.alloc (.cells #[.int .i64 p, .int .i64 t] 23)) := (Below.refl _ _).alloc (Nat.le_refl _) _
  have HV := hid (fun (W : World) (hb : Below w.heap.size w W) => validCells_c W p t a n cap l hn hm (H.below hb))
  cases hf : okCells p t l
  · have e1 : countV p t l = 0 := by simp [countV, hf]
    have e2 : cellsE p t l = 1 := by simp [cellsE, hf]
    rw [e1, e2]
    clear e1 e2 hn H
    rw [hf] at HV
    go_enter Try.func23, Try.ntmps23
    go_wp2_with (go_at_call 21; refine (HV.out _ hb0).mono ?_; rintro e w1 ⟨rfl, hb1⟩; obtain ⟨hc1, hf1⟩ := bcell hb1)
    go_ret2
    exact ⟨rfl, chain hb0 hb1⟩
  · obtain ⟨hfd, hrows⟩ := okCells_bd hf
    obtain ⟨p1, p8, t0, t3⟩ := okField_bd hfd
    obtain ⟨P, rfl⟩ := Int.eq_ofNat_of_zero_le (show 0 ≤ p by omega)
    obtain ⟨T, rfl⟩ := Int.eq_ofNat_of_zero_le t0
    have e1 : countV (P : Int) (T : Int) l = ((fitting P T l).length : Int) := by simp [countV, hf]
    have e2 : cellsE (P : Int) (T : Int) l = 0 := by simp [cellsE, hf]
    rw [e1, e2]
    have HL := hid (fun (W : World) (hb : Below w.heap.size w W) => left_c W P T (by omega) (by omega) a n cap l hn hm (H.below hb) hrows)
    clear e1 e2 hn H hrows
    rw [hf] at HV
    go_enter Try.func23, Try.ntmps23
    go_wp2_with (first | (go_at_call 21; refine (HV.out _ hb0).mono ?_; rintro e w1 ⟨rfl, hb1⟩; obtain ⟨hc1, hf1⟩ := bcell hb1) | (go_at_call 65; refine (HL.out _ (chain hb0 hb1)).mono ?_; rintro e w2 ⟨v, base, rfl, hbase, hR, hb2⟩; obtain ⟨a2, c2, rfl, hl2, _, _⟩ := hR.reads; have HR := hid hR; clear hR))
    go_ret2
    exact ⟨rfl, chain hb0 (chain hb1 hb2)⟩

theorem refPicturesP_c (w : World) (p t : Int) :
    Calls Try.prog 14 #[.agg #[.int .i64 p, .int .i64 t]] w fun e w' => e = .returned (.tuple #[.int .i64 (cntP p t), .int .i64 (fieldE p t)]) ∧ Below w.heap.size w w' := by
  have hb0 : Below w.heap.size w (w.alloc (.cells #[.int .i64 p, .int .i64 t] 23)) := (Below.refl _ _).alloc (Nat.le_refl _) _
  cases hf : okField p t
  · have e1 : cntP p t = 0 := by simp [cntP, hf]
    have e2 : fieldE p t = 1 := by simp [fieldE, hf]
    rw [e1, e2]
    clear e1 e2
    go_enter Try.func14, Try.ntmps14
    go_wp2_with (go_at_call 20; refine (refValidField_c _ _ _).mono ?_; rintro e w1 ⟨rfl, hb1⟩; obtain ⟨hc1, hf1⟩ := bcell hb1)
    go_ret2
    exact ⟨rfl, chain hb0 hb1⟩
  · obtain ⟨p1, p8, t0, t3⟩ := okField_bd hf
    obtain ⟨P, rfl⟩ := Int.eq_ofNat_of_zero_le (show 0 ≤ p by omega)
    obtain ⟨T, rfl⟩ := Int.eq_ofNat_of_zero_le t0
    have e1 : cntP (P : Int) (T : Int) = ((pics (T + 1) P).length : Int) := by simp [cntP, hf, length_pics]
    have e2 : fieldE (P : Int) (T : Int) = 0 := by simp [fieldE, hf]
    rw [e1, e2]
    clear e1 e2
    have HP := hid (fun W : World => refPictures_c W P T (by omega) (by omega))
    go_enter Try.func14, Try.ntmps14
    go_wp2_with (first | (go_at_call 20; refine (refValidField_c _ _ _).mono ?_; rintro e w1 ⟨rfl, hb1⟩; obtain ⟨hc1, hf1⟩ := bcell hb1) | (go_at_call 52; refine (HP.out _).mono ?_; rintro e w2 ⟨v, base, rfl, hbase, hR, hb2⟩; obtain ⟨a2, c2, rfl, hl2, _, _⟩ := hR.reads; have HR := hid hR; clear hR))
    go_ret2
    exact ⟨rfl, chain hb0 (chain hb1 hb2)⟩

/-- the guard few -/
def fewB (p t most : Int) : Bool := !okField p t || decide (((((t.toNat + 1) ^ p.toNat : Nat) : Int)) ≤ most)

theorem few_c (w : World) (p t most : Int) :
    Calls Try.prog 10 #[.agg #[.int .i64 p, .int .i64 t], .int .i64 most] w fun e w' => e = .returned (.bool (fewB p t most)) ∧ Below w.heap.size w w' := by
  have hb0 : Below w.heap.size w (w.alloc (.cells #[.int .i64 p, .int .i64 t] 23)) := (Below.refl _ _).alloc (Nat.le_refl _) _
  cases hf : okField p t
  · have e1 : fewB p t most = true := by simp [fewB, hf]
    rw [e1]
    clear e1
    go_enter Try.func10, Try.ntmps10
    go_wp2_with (go_at_call 20; refine (refValidField_c _ _ _).mono ?_; rintro e w1 ⟨rfl, hb1⟩; obtain ⟨hc1, hf1⟩ := bcell hb1)
    go_ret
    exact ⟨rfl, chain hb0 hb1⟩
  · obtain ⟨p1, p8, t0, t3⟩ := okField_bd hf
    obtain ⟨P, rfl⟩ := Int.eq_ofNat_of_zero_le (show 0 ≤ p by omega)
    obtain ⟨T, rfl⟩ := Int.eq_ofNat_of_zero_le t0
    have e1 : fewB (P : Int) (T : Int) most = decide ((((T + 1) ^ P : Nat) : Int) ≤ most) := by simp [fewB, hf]
    rw [e1]
    clear e1
    go_enter Try.func10, Try.ntmps10
    go_wp2_with (go_at_call 20; refine (refValidField_c _ _ _).mono ?_; rintro e w1 ⟨rfl, hb1⟩; obtain ⟨hc1, hf1⟩ := bcell hb1)
    have hz1 : w.heap.size < w1.heap.size := by have := hb1.size; simp at this; omega
    have ht1 : w1.cell? ⟨w.heap.size, 1, none⟩ = some (.int .i64 (T : Int)) := by rw [hc1 _ _ (by simp), World.cell?_alloc_at _ _ _ _ rfl]; rfl
    have hbw : Below w.heap.size w w1 := chain hb0 hb1
    clear hc1 hf1
    go_loop [5, 11] (fun n i => ∃ k : Nat, k ≤ P ∧ i = .int .i64 k ∧ n = .int .i64 (((T + 1) ^ k : Nat) : Int)) (fun _ i => P - (intOf i).toNat)
    case atStart => exact ⟨0, Nat.zero_le _, rfl, by simp⟩
    case round =>
      obtain ⟨k, hk, rfl, rfl⟩ := hrel
      have hpw := pow_le (p := k) (t := T) (by omega) (by omega)
      by_cases hlt : k < P
      · have e3 : wrap64 ((((T + 1) ^ k : Nat) : Int) * ((T : Int) + 1)) = (((T + 1) ^ (k + 1) : Nat) : Int) := by
          have h2 := pow_le (p := k + 1) (t := T) (by omega) (by omega)
          have h1 : (((T + 1) ^ k : Nat) : Int) * ((T : Int) + 1) = (((T + 1) ^ (k + 1) : Nat) : Int) := by rw [Nat.pow_succ]; simp
          rw [h1]; generalize (T + 1) ^ (k + 1) = y at *; unfold wrap64; omega
        have HE3 := hid e3
        clear e3
        obtain ⟨Y, hY⟩ : ∃ Y : Nat, Y = (T + 1) ^ k := ⟨_, rfl⟩
        obtain ⟨Z, hZ⟩ : ∃ Z : Nat, Z = (T + 1) ^ (k + 1) := ⟨_, rfl⟩
        rw [← hY, ← hZ] at HE3
        rw [← hY] at hpw ⊢
        have HY := hid hY
        have HZ := hid hZ
        clear hY hZ
        go_wp2
        go_round
        case rel => exact ⟨k + 1, by omega, by go_num, by rw [← HZ.out, ← HE3.out]⟩
        case measure => simp [intOf]; omega
      · obtain rfl : k = P := by omega
        go_wp2
        go_ret
        exact ⟨rfl, hbw⟩

/-- the guard fit -/
def fitB (l : List Cel) : Bool := l.all (fun c => decide (c.row.length ≤ 20)) && decide (l.length ≤ 35)

theorem fit_c (w : World) (a : Option Addr) (n cap : Nat) (l : List Cel) (hn : l.length = n) (hm : n ≤ maxLen) (H : CellsAt w a l) :
    Calls Try.prog 11 #[.slice a n cap] w fun e w' => e = .returned (.bool (fitB l)) ∧ Below w.heap.size w w' := by
  have HN := hid hn
  have HH := hid H
  clear hn H
  unfold maxLen at hm
  go_enter Try.func11, Try.ntmps11
  go_wp2
  go_loopw [7] (fun i wr => ∃ k : Nat, k ≤ n ∧ i = .int .i64 k ∧ Below w.heap.size w wr ∧ ∀ j (hj : j < l.length), j < k → l[j].row.length ≤ 20) (fun i _ => n - (intOf i).toNat)
  case atStart => exact ⟨0, Nat.zero_le _, rfl, Below.refl _ _, fun i _ h => by omega⟩
  case round =>
    obtain ⟨k, hk, rfl, hb, hno⟩ := hrel
    have HNO := hid hno
    clear hno
    by_cases hlt : k < n
    · have hkl : k < l.length := by rw [HN.out]; exact hlt
      obtain ⟨b, off, ra, rn, rc, rfl, hbs, h0, h1, h2, hrn, hrm, hri⟩ := HH.out.below hb k hkl
      have hb1 : Below wr.heap.size wr (wr.alloc (.cells #[.slice ra rn rc, .int .i64 l[k].lo, .int .i64 l[k].hi] 41)) := (Below.refl _ _).alloc (Nat.le_refl _) _
      have HRN := hid hrn
      unfold maxLen at hrm
      clear hrn hri
      by_cases h20 : rn ≤ 20
      all_goals go_wp2
      · have HR : Hid (∃ k_1 : Nat, k_1 ≤ n ∧ Value.int .i64 ((k : Int) + 1) = Value.int .i64 (k_1 : Int) ∧ Below w.heap.size w (wr.alloc (.cells #[.slice ra rn rc, .int .i64 l[k].lo, .int .i64 l[k].hi] 41)) ∧ ∀ j (hj : j < l.length), j < k_1 → l[j].row.length ≤ 20) := by
          refine ⟨k + 1, by omega, cast1 k, chain hb hb1, ?_⟩
          intro j hj hjk
          by_cases e : j = k
          · subst e; rw [HRN.out]; exact h20
          · exact HNO.out j hj (by omega)
        first | exact ⟨HR.out, meas hlt⟩ | (go_roundw; (case rel => exact HR.out); (case measure => exact meas hlt))
      · go_ret
        refine ⟨ret_bool ?_, chain hb hb1⟩
        have : l.all (fun c => decide (c.row.length ≤ 20)) = false := by
          rw [List.all_eq_false]
          exact ⟨l[k], List.getElem_mem _, by simp [HRN.out]; omega⟩
        simp [fitB, this]
    · go_wp2
      go_ret
      refine ⟨ret_bool ?_, hb⟩
      have : l.all (fun c => decide (c.row.length ≤ 20)) = true := by
        rw [List.all_eq_true]
        intro c hc
        obtain ⟨j, hj, rfl⟩ := List.mem_iff_getElem.1 hc
        have := HNO.out j hj (by have := HN.out; omega)
        simpa using this
      simp [fitB, this, HN.out]; try omega

theorem bcellN {N : Nat} {W w1 : World} (hb : Below N W w1) : (∀ b o, b < N → w1.cell? ⟨b, o, none⟩ = W.cell? ⟨b, o, none⟩) ∧ (∀ b o, b < N → w1.frozen? ⟨b, o, none⟩ = W.frozen? ⟨b, o, none⟩) :=
  ⟨fun b o h => hb.cell (p := ⟨b, o, none⟩) h, fun b o h => hb.frozen (p := ⟨b, o, none⟩) h⟩

theorem awake_cnt : countV 2 1 [⟨[1, 1], 1, 1⟩] = 2 ∧ cellsE 2 1 [⟨[1, 1], 1, 1⟩] = 0 ∧ sightLo 2 1 [1, 1] = 0 ∧ sightHi 2 1 [1, 1] = 2 ∧ rowE 2 1 [1, 1] = 0 := by decide +kernel

theorem two_ints (W : World) : IntsAt (W.alloc (.cells #[.int .i64 1, .int .i64 1] 3)) (some ⟨W.heap.size, 0, none⟩) [1, 1] := by
  have h : (W.alloc (.cells #[.int .i64 1, .int .i64 1] 3)).heap[W.heap.size]? = some (.cells (([1, 1] : List Int).map (Value.int .i64) ++ []).toArray 3 (0, 0)) := World.alloc_heap_new _ _
  exact ints_of_row h

theorem one_cells (W : World) (b1 : Nat) (h1 : IntsAt W (some ⟨b1, 0, none⟩) [1, 1]) : CellsAt (W.alloc (.cells #[.slice (some ⟨b1, 0, none⟩) 2 2, .int .i64 1, .int .i64 1] 41)) (some ⟨W.heap.size, 0, none⟩) [⟨[1, 1], 1, 1⟩] := by
  have hb : Below W.heap.size W (W.alloc (.cells #[.slice (some ⟨b1, 0, none⟩) 2 2, .int .i64 1, .int .i64 1] 41)) := (Below.refl _ _).alloc (Nat.le_refl _) _
  intro j hj
  have : j = 0 := by simp at hj; omega
  subst this
  refine ⟨W.heap.size, 0, some ⟨b1, 0, none⟩, 2, 2, rfl, by simp, ?_, ?_, ?_, rfl, by decide, h1.below hb⟩ <;> (rw [World.cell?_alloc_at _ _ _ _ rfl]; rfl)

set_option maxRecDepth 100000 in
theorem awake_c (w : World) : Calls Try.prog 12 #[] w fun e w' => e = .returned (.bool true) ∧ Below w.heap.size w w' := by
  obtain ⟨c1, c2, c3, c4, c5⟩ := awake_cnt
  have hb0 : Below w.heap.size w (w.alloc (.cells #[.int .i64 2, .int .i64 1] 23)) := (Below.refl _ _).alloc (Nat.le_refl _) _
  have HC0 := (count_c _ 2 1 (some ⟨((w.alloc (.cells #[.int .i64 2, .int .i64 1] 23)).alloc (.cells #[.int .i64 1, .int .i64 1] 3)).heap.size, 0, none⟩) 1 1 [⟨[1, 1], 1, 1⟩] rfl (by decide) (one_cells ((w.alloc (.cells #[.int .i64 2, .int .i64 1] 23)).alloc (.cells #[.int .i64 1, .int .i64 1] 3)) (w.alloc (.cells #[.int .i64 2, .int .i64 1] 23)).heap.size (two_ints _)))
  have HS := hid (fun W : World => sight_c (W.alloc (.cells #[.int .i64 1, .int .i64 1] 3)) 2 1 (some ⟨W.heap.size, 0, none⟩) 2 2 [1, 1] rfl (by decide) (two_ints _))
  rw [c1, c2] at HC0
  simp only [World.size_alloc] at HC0
  have HC := hid HC0
  clear HC0
  simp only [c3, c4, c5] at HS
  clear c1 c2 c3 c4 c5
  go_enter Try.func12, Try.ntmps12
  go_wp2_with (first | (go_at_call 23; refine HC.out.mono ?_; rintro e w1 ⟨rfl, hb1⟩; obtain ⟨hc1, hf1⟩ := bcellN hb1) | (go_at_call 17; refine (HS.out _).mono ?_; rintro e w2 ⟨rfl, hb3⟩; obtain ⟨hc2, hf2⟩ := bcell hb3))
  go_ret
  refine ⟨rfl, ?_⟩
  have hA := (hb0.alloc (by simp) (.cells #[.int .i64 1, .int .i64 1] 3)).alloc (by simp; omega) (.cells #[.slice (some ⟨w.heap.size + 1, 0, none⟩) 2 2, .int .i64 1, .int .i64 1] 41)
  have h1 := hA.trans (hb1.mono (by omega))
  have hs := h1.size
  have h2 := (h1.alloc hs (.cells #[.int .i64 1, .int .i64 1] 3)).trans (hb3.mono (by simp; omega))
  exact h2.alloc h2.size _
end Go.Proofs.Ytdcflpfaaeijoaa
