/- The plain law of plays. -/
import Derived.Test.YtdcflpfaaeijoaaBitAI
namespace Go.Proofs.Ytdcflpfaaeijoaa
open Go.RowKit Go.Maps
set_option linter.unusedVariables false

theorem pics_mem {b : Nat} (hb : 0 < b) : ∀ (p : Nat) (x : List Int), x.length = p → (∀ n ∈ x, 0 ≤ n ∧ n < (b : Int)) → ∃ k, k < b ^ p ∧ x = dig b p k
  | 0, x, h, _ => ⟨0, by simp, by rw [List.eq_nil_of_length_eq_zero h]; rfl⟩
  | p + 1, x, h, hx => by
    have hne : x ≠ [] := by intro e; rw [e] at h; simp at h
    have hd := List.dropLast_concat_getLast hne
    obtain ⟨k, hk, e⟩ := pics_mem hb p x.dropLast (by rw [List.length_dropLast]; omega) (fun n hn => hx n ((List.dropLast_prefix x).subset hn))
    obtain ⟨h0, h1⟩ := hx _ (List.getLast_mem hne)
    generalize x.getLast hne = z at hd h0 h1
    have hz : z = ((z.toNat : Nat) : Int) := by omega
    have hzb : z.toNat < b := by omega
    refine ⟨k * b + z.toNat, ?_, ?_⟩
    · rw [Nat.pow_succ]
      calc k * b + z.toNat < k * b + b := by omega
        _ = (k + 1) * b := by rw [Nat.add_mul, Nat.one_mul]
        _ ≤ b ^ p * b := Nat.mul_le_mul_right b hk
    · have e2 : dig b (p + 1) (k * b + z.toNat) = dig b p k ++ [z] := by
        show dig b p ((k * b + z.toNat) / b) ++ [(((k * b + z.toNat) % b : Nat) : Int)] = _
        rw [show (k * b + z.toNat) / b = k from by rw [Nat.mul_comm, Nat.mul_add_div hb, Nat.div_eq_of_lt hzb]; rfl, show (k * b + z.toNat) % b = z.toNat from by rw [Nat.mul_comm, Nat.mul_add_mod, Nat.mod_eq_of_lt hzb], ← hz]
      rw [e2, ← e, hd]

theorem pic_in {P T : Nat} {x : List Int} (h : picE (P : Int) (T : Int) x = 0) : x ∈ pics (T + 1) P := by
  unfold picE at h
  split at h
  · omega
  rename_i h1
  split at h
  rotate_left
  · omega
  rename_i h2
  obtain ⟨k, hk, e⟩ := pics_mem (b := T + 1) (by omega) P x (by omega) (fun n hn => by
    have := List.all_eq_true.1 h2 n hn
    simp [inB] at this
    omega)
  unfold pics
  rw [List.mem_map]
  exact ⟨k, by simpa using hk, e.symm⟩

theorem bestR_least (F rows : List (List Int)) : ∀ k j, j ≤ k → rG F rows (bestR F rows k) ≤ rG F rows j
  | 0, j, h => by obtain rfl : j = 0 := by omega
                  exact Nat.le_refl _
  | k + 1, j, h => by
    unfold bestR
    by_cases e : j = k + 1
    · subst e; split <;> omega
    · have := bestR_least F rows k j (by omega)
      split <;> omega

/-- a cell that is asked is a cell of the field, and the picture fits it -/
theorem bitC_good {p t : Int} {row x : List Int} (hf : okField p t = true) (hr : okRow p row = true) (hx : picE p t x = 0) {thr : Int} (h1 : -99 ≤ thr) (h2 : thr ≤ 100) : okCell p (bitC row x thr) = true ∧ fitC x (bitC row x thr) = true := by
  have hE : rowedE p t row x = 0 := by simp [rowedE, rowE, hf, hr, hx]
  obtain ⟨d1, d2⟩ := dot_bd24 hE
  unfold bitC
  split
  · simp [okCell, fitC, inB, hr]; omega
  · simp [okCell, fitC, inB, hr]; omega

theorem playN_good {P T : Nat} {ls : List (List Int)} {x : List Int} (hf : okField (P : Int) (T : Int) = true) (hr : rowsOk (P : Int) ls = true) (hx : picE (P : Int) (T : Int) x = 0) (h1 : 1 ≤ ls.length) :
    ∀ (k : Nat) (out : List Cel), (∀ c ∈ out, okCell P c = true ∧ fitC x c = true) → (∀ c ∈ playN P T ls x k out, okCell P c = true ∧ fitC x c = true) ∧ (playN P T ls x k out).length ≤ out.length + k ∧
      ((playN P T ls x k out).length = out.length + k ∨ playStep P T ls x (playN P T ls x k out) = none)
  | 0, out, h => ⟨h, Nat.le_refl _, .inl rfl⟩
  | k + 1, out, h => by
    unfold playN
    cases hs : playStep P T ls x out with
    | none => exact ⟨h, Nat.le_add_right _ _, .inr hs⟩
    | some c =>
      have hc : okCell P c = true ∧ fitC x c = true := by
        unfold playStep at hs
        split at hs
        · cases hs
        · obtain ⟨t1, t2⟩ := rT_in (fitting P T out) ls (bestR (fitting P T out) ls (ls.length - 1))
          have hb := bestR_le (fitting P T out) ls (ls.length - 1)
          have hlt : bestR (fitting P T out) ls (ls.length - 1) < ls.length := by omega
          rw [List.getElem?_eq_getElem hlt] at hs
          cases hs
          exact bitC_good hf (List.all_eq_true.1 hr _ (List.getElem_mem hlt)) hx t1 t2
      obtain ⟨q1, q2, q3⟩ := playN_good hf hr hx h1 k (out ++ [c]) (fun d hd => by
        rcases List.mem_append.1 hd with h' | h'
        · exact h d h'
        · obtain rfl : d = c := by simpa using h'
          exact hc)
      rw [List.length_append] at q2 q3
      exact ⟨q1, by simp at q2 ⊢; omega, by
        rcases q3 with q3 | q3
        · left; simp at q3 ⊢; omega
        · exact .inr q3⟩

theorem plays_law {p t : Int} {ls : List (List Int)} {x : List Int} {most : Int} (h : playE p t ls x most = 0) :
    fitsE p t (playV p t ls x most) x = 0 ∧ fitsV p t (playV p t ls x most) x = true ∧ cellsE p t (playV p t ls x most) = 0 ∧ 0 ≤ most ∧ ((playV p t ls x most).length : Int) ≤ most ∧ most ≤ 30 ∧
    (countV p t (playV p t ls x most) = 1 ∨ ((playV p t ls x most).length : Int) = most ∨ ∀ k (thr : Int), k < ls.length → -99 ≤ thr → thr ≤ 100 →
      partsE p t (playV p t ls x most) (ls[k]?.getD []) thr = 0 ∧ (partsLo p t (playV p t ls x most) (ls[k]?.getD []) thr = 0 ∨ partsHi p t (playV p t ls x most) (ls[k]?.getD []) thr = 0)) := by
  have hV : playV p t ls x most = playN p.toNat t.toNat ls x most.toNat [] := by rw [playV, if_pos h]
  unfold playE at h
  split at h
  rotate_left
  · omega
  rename_i hok
  split at h
  rotate_left
  · omega
  rename_i hpe
  split at h
  rotate_left
  · omega
  rename_i hin
  obtain ⟨hf, hr⟩ := (Bool.and_eq_true _ _).mp hok
  obtain ⟨i1, i2⟩ := (Bool.and_eq_true _ _).mp hin
  obtain ⟨p1, p8, t0, t3⟩ := okField_bd hf
  obtain ⟨P, rfl⟩ := Int.eq_ofNat_of_zero_le (show 0 ≤ p by omega)
  obtain ⟨T, rfl⟩ := Int.eq_ofNat_of_zero_le t0
  have hm : 0 ≤ most ∧ most ≤ 30 := by simpa [inB] using i2
  have hl : 1 ≤ ls.length := by simp [inB] at i1; omega
  obtain ⟨M, rfl⟩ := Int.eq_ofNat_of_zero_le hm.1
  rw [hV]
  simp only [Int.toNat_natCast]
  obtain ⟨g1, g2, g3⟩ := playN_good hf hr hpe hl M [] (fun c hc => by simp at hc)
  generalize playN P T ls x M [] = A at g1 g2 g3 ⊢
  simp only [List.length_nil, Nat.zero_add] at g2 g3
  have hokc : okCells (P : Int) (T : Int) A = true := by
    simp only [okCells, hf, Bool.true_and, Bool.and_eq_true, decide_eq_true_eq]
    exact ⟨by omega, List.all_eq_true.2 fun c hc => (g1 c hc).1⟩
  have hfE : fitsE (P : Int) (T : Int) A x = 0 := by rw [fitsE, if_pos hokc, hpe]
  have hfit : fitA A x = true := List.all_eq_true.2 fun c hc => (g1 c hc).2
  refine ⟨hfE, by rw [fitsV, if_pos hfE, hfit], by rw [cellsE, if_pos hokc], by omega, by omega, by omega, ?_⟩
  have hxF : x ∈ fitting P T A := List.mem_filter.2 ⟨pic_in hpe, hfit⟩
  have hpos : 1 ≤ (fitting P T A).length := List.length_pos_of_mem hxF
  by_cases hc1 : (fitting P T A).length = 1
  · left; rw [countV, if_pos hokc]; simp [hc1]
  right
  rcases g3 with g3 | g3
  · left; omega
  right
  intro k thr hk h1 h2
  have hrow : okRow (P : Int) (ls[k]?.getD []) = true := by rw [List.getElem?_eq_getElem hk]; exact List.all_eq_true.1 hr _ (List.getElem_mem hk)
  have hE : partsE (P : Int) (T : Int) A (ls[k]?.getD []) thr = 0 := by
    rw [partsE, if_pos (by simp [hokc, hrow]), if_pos]
    simp [inB]; omega
  refine ⟨hE, ?_⟩
  rw [partsLo, partsHi, if_pos hE, if_pos hE]
  simp only [Int.toNat_natCast]
  unfold playStep at g3
  split at g3
  rotate_left
  · cases g3
  rename_i hor
  have hL0 : rL (fitting P T A) ls (bestR (fitting P T A) ls (ls.length - 1)) = 0 := by omega
  have hsum := rG_rL (fitting P T A) ls (bestR (fitting P T A) ls (ls.length - 1))
  have hle := bestR_least (fitting P T A) ls (ls.length - 1) k (by omega)
  obtain ⟨j, hj⟩ : ∃ j : Nat, thr = -99 + (j : Int) := ⟨(thr + 99).toNat, by omega⟩
  have hlt := bestT_least (rsum (fitting P T A) ls k) 199 j (by omega)
  rw [← hj] at hlt
  have hcount := count_two (rsum (fitting P T A) ls k) thr
  have hlen : (rsum (fitting P T A) ls k).length = (fitting P T A).length := by simp [rsum]
  have hg : rG (fitting P T A) ls k = grT (rsum (fitting P T A) ls k) (bestT (rsum (fitting P T A) ls k) 199) := rfl
  rw [show (fitting P T A).map (dotW (ls[k]?.getD [])) = rsum (fitting P T A) ls k from rfl]
  generalize rsum (fitting P T A) ls k = ss at hlt hcount hlen hg ⊢
  unfold grT at hlt
  unfold grT at hg
  split at hlt <;> split at hlt <;> split at hg <;> omega
end Go.Proofs.Ytdcflpfaaeijoaa
