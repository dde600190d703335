/- Plain laws of BitFewer: a further cell leaves no more pictures, and no wider bounds; the parts add up. -/
import Derived.Test.YtdcflpfaaeijoaaBitW
namespace Go.Proofs.Ytdcflpfaaeijoaa
open Go.RowKit Go.Maps
set_option linter.unusedVariables false

theorem fitting_more (p t : Nat) (l : List Cel) (x : Cel) : fitting p t (l ++ [x]) = (fitting p t l).filter (fun y => fitC y x) := by
  unfold fitting
  rw [List.filter_filter]
  apply List.filter_congr
  intro y _
  unfold fitA
  rw [List.all_append]
  simp [Bool.and_comm]

theorem count_more {p t : Int} {l : List Cel} {x : Cel} (h1 : cellsE p t l = 0) (h2 : cellsE p t (l ++ [x]) = 0) : countV p t (l ++ [x]) ≤ countV p t l := by
  have e1 : okCells p t l = true := by unfold cellsE at h1; split at h1 <;> simp_all
  have e2 : okCells p t (l ++ [x]) = true := by unfold cellsE at h2; split at h2 <;> simp_all
  rw [countV, countV, if_pos e1, if_pos e2, fitting_more]
  have := List.length_filter_le (fun y => fitC y x) (fitting p.toNat t.toNat l)
  omega

theorem loT_le (F : List (List Int)) (P : Nat) : ∀ n k, k < n → loT F P n ≤ pix F P k
  | n + 1, k, h => by
    unfold loT
    by_cases e : k = n
    · subst e; split <;> omega
    · have := loT_le F P n k (by omega)
      split <;> omega
theorem le_hiT (F : List (List Int)) (P : Nat) : ∀ n k, k < n → pix F P k ≤ hiT F P n
  | n + 1, k, h => by
    unfold hiT
    by_cases e : k = n
    · subst e; split <;> omega
    · have := le_hiT F P n k (by omega)
      split <;> omega
theorem loT_is (F : List (List Int)) (P : Nat) : ∀ n, ∃ k, (k < n ∨ k = 0) ∧ loT F P n = pix F P k
  | 0 => ⟨0, .inr rfl, rfl⟩
  | n + 1 => by
    obtain ⟨k, hk, e⟩ := loT_is F P n
    unfold loT
    split
    · exact ⟨n, .inl (by omega), rfl⟩
    · exact ⟨k, by omega, e⟩
theorem hiT_is (F : List (List Int)) (P : Nat) : ∀ n, ∃ k, (k < n ∨ k = 0) ∧ hiT F P n = pix F P k
  | 0 => ⟨0, .inr rfl, rfl⟩
  | n + 1 => by
    obtain ⟨k, hk, e⟩ := hiT_is F P n
    unfold hiT
    split
    · exact ⟨n, .inl (by omega), rfl⟩
    · exact ⟨k, by omega, e⟩
theorem pix_sub {F G : List (List Int)} {P k : Nat} (hk : k < G.length) (hs : ∀ x ∈ G, x ∈ F) : ∃ j, j < F.length ∧ pix G P k = pix F P j := by
  obtain ⟨j, hj, e⟩ := List.mem_iff_getElem.1 (hs _ (List.getElem_mem hk))
  refine ⟨j, hj, ?_⟩
  unfold pix
  rw [List.getElem?_eq_getElem hk, List.getElem?_eq_getElem hj]
  simp [e]

theorem bounds_more {p t px : Int} {l : List Cel} {x : Cel} (h1 : boundsE p t l px = 0) (h2 : boundsE p t (l ++ [x]) px = 0) :
    boundsLo p t l px ≤ boundsLo p t (l ++ [x]) px ∧ boundsHi p t (l ++ [x]) px ≤ boundsHi p t l px := by
  rw [boundsLo, boundsLo, boundsHi, boundsHi, if_pos h1, if_pos h2, if_pos h1, if_pos h2]
  have hne : fitting p.toNat t.toNat (l ++ [x]) ≠ [] := by
    intro e
    unfold boundsE at h2
    rw [e] at h2
    split at h2
    · split at h2 <;> simp at h2
    · omega
  have hs : ∀ y ∈ fitting p.toNat t.toNat (l ++ [x]), y ∈ fitting p.toNat t.toNat l := by
    intro y hy
    rw [fitting_more] at hy
    exact (List.mem_filter.1 hy).1
  generalize fitting p.toNat t.toNat (l ++ [x]) = G at *
  generalize fitting p.toNat t.toNat l = F at *
  have hpos : 0 < G.length := List.length_pos_iff.2 hne
  constructor
  · obtain ⟨k, hk, e⟩ := loT_is G px.toNat G.length
    obtain ⟨j, hj, e2⟩ := pix_sub (P := px.toNat) (show k < G.length by omega) hs
    rw [e, e2]
    exact loT_le F px.toNat F.length j hj
  · obtain ⟨k, hk, e⟩ := hiT_is G px.toNat G.length
    obtain ⟨j, hj, e2⟩ := pix_sub (P := px.toNat) (show k < G.length by omega) hs
    rw [e, e2]
    exact le_hiT F px.toNat F.length j hj

theorem parts_sum {p t thr : Int} {l : List Cel} {row : List Int} (h : partsE p t l row thr = 0) : cellsE p t l = 0 ∧ partsLo p t l row thr + partsHi p t l row thr = countV p t l ∧ 0 ≤ partsLo p t l row thr ∧ 0 ≤ partsHi p t l row thr ∧ countV p t l ≤ 65536 := by
  have hok : okCells p t l = true := by
    unfold partsE at h
    split at h
    · rename_i h1; simp at h1; exact h1.1
    · omega
  refine ⟨by rw [cellsE, if_pos hok], ?_⟩
  rw [partsLo, partsHi, if_pos h, if_pos h, countV, if_pos hok]
  obtain ⟨p1, p8, t0, t3⟩ := okField_bd (okCells_bd hok).1
  have hle := fitting_le (p := p.toNat) (t := t.toNat) (by omega) (by omega) l
  have hc : ∀ ss : List Int, ss.countP (lowB thr) + ss.countP (highB thr) = ss.length := by
    intro ss
    induction ss with
    | nil => rfl
    | cons s ss ih =>
      rw [List.countP_cons, List.countP_cons, List.length_cons]
      by_cases hx : s < thr
      · have e1 : lowB thr s = true := by simp [lowB, hx]
        have e2 : highB thr s = false := by simp [highB, hx]
        rw [if_pos e1, if_neg (by rw [e2]; simp)]; omega
      · have e1 : lowB thr s = false := by simp [lowB, hx]
        have e2 : highB thr s = true := by simp [highB, hx]
        rw [if_pos e2, if_neg (by rw [e1]; simp)]; omega
  have := hc ((fitting p.toNat t.toNat l).map (dotW row))
  rw [List.length_map] at this
  omega
end Go.Proofs.Ytdcflpfaaeijoaa
