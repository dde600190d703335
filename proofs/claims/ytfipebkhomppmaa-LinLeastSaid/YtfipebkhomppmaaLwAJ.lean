/- Plain: what LinLeast needs of circuits. -/
import Derived.Test.YtfipebkhomppmaaLwAG
import Derived.Test.YtfipebkhomppmaaLwAI
namespace Go.Proofs.Ytfipebkhomppmaa
open Go.RowKit
set_option linter.unusedVariables false

/-- a circuit's facts, as the law's functions ask for them -/
theorem circ_law {M : Mask} (hok : okM M = true) {c : List Int} (hc : c ∈ circP M (colsM M)) :
    c.length = colsM M ∧ isKerB M c = true ∧ primB c = true ∧ ∃ S, SetOk (colsM M) S ∧ S ≠ [] ∧ circ1P M (colsM M) S = some c := by
  obtain ⟨hM, h1, h6, hc1, hc10⟩ := okM_ok hok
  obtain ⟨k, S, hk, hS, hcc⟩ := circP_mem.1 hc
  have hne : S ≠ [] := fun e => by have := comb_len _ _ _ S hS; rw [e] at this; simp at this
  obtain ⟨f1, f2, f3, f4, f5⟩ := circ_facts hM (comb_ok hS) hne hcc
  have hmil : milB c = true := List.all_eq_true.2 (mem_vec (P := fun x => inB x (-1000000) 1000000 = true) fun q => by
    have := f3 q
    unfold inB
    simp only [Bool.and_eq_true, decide_eq_true_eq]
    omega)
  have hnil : nilB c = false := by
    rw [← Bool.not_eq_true]
    intro h0
    have h2 : ∀ x ∈ c, x = 0 := fun x hx => by simpa using List.all_eq_true.1 h0 x hx
    rw [firstNz_zero h2] at f5
    omega
  refine ⟨f1, isKer_yes hok f1 hmil hnil fun j hj => ?_, ?_, S, comb_ok hS, hne, hcc⟩
  · have := f2 j hj
    unfold dotV
    have hl : M[j].length = colsM M := hM.wid _ (List.getElem_mem hj)
    rw [hl]
    unfold dotS rowv at this
    rw [List.getElem?_eq_getElem hj] at this
    exact this
  · unfold primB
    have hg : gcdL c = 1 := by
      have h1 := f4 (gcdL c) (fun q => vec_mem (P := fun x => gcdL c ∣ x) (Int.dvd_zero _) (fun x hx => gcdL_dvd hx) q)
      have h2 := gcdL_nonneg c
      have := Int.le_of_dvd (by decide) h1
      have h3 := nil_gcd hnil
      omega
    rw [hmil, decide_eq_true hg, decide_eq_true f5]; rfl
theorem isKer_ok {M : Mask} {h : List Int} (e : isKerB M h = true) : okM M = true ∧ h.length = colsM M ∧ nilB h = false ∧ IsKer M (colsM M) (vec h) := by
  unfold isKerB at e
  simp only [Bool.and_eq_true, decide_eq_true_eq, Bool.not_eq_true'] at e
  obtain ⟨e1, e2, e3, e4, e5⟩ := e
  obtain ⟨hM, h1, h6, hc1, hc10⟩ := okM_ok e1
  refine ⟨e1, e2, e4, fun q hq => ?_⟩
  have := List.all_eq_true.1 e5 M[q] (List.getElem_mem hq)
  have h5 : dotV M[q] h = 0 := by simpa using this
  unfold dotV at h5
  rw [hM.wid _ (List.getElem_mem hq)] at h5
  unfold dotS rowv
  rw [List.getElem?_eq_getElem hq]
  exact h5
/-- a kernel vector whose support lies within a circuit's has that support -/
theorem least_same {M : Mask} {h c : List Int} (hk : isKerB M h = true) (hc : c ∈ circP M (colsM M)) (hw : ∀ j, j < colsM M → vec h j = 0 ∨ vec c j ≠ 0) : ∀ j, j < colsM M → (vec h j = 0 ↔ vec c j = 0) := by
  obtain ⟨hok, hl, hn, hv⟩ := isKer_ok hk
  obtain ⟨hM, h1, h6, hc1, hc10⟩ := okM_ok hok
  obtain ⟨_, _, _, S, hS, hne, hcc⟩ := circ_law hok hc
  have hs := circ_supp hM hS hcc
  have hnz : ∃ j, j < colsM M ∧ vec h j ≠ 0 := by
    refine Classical.byContradiction fun hno => ?_
    have h0 : nilB h = true := List.all_eq_true.2 (mem_vec (P := fun x => decide (x = 0) = true) fun q => by
      rcases Nat.lt_or_ge q (colsM M) with hq | hq
      · have : vec h q = 0 := Classical.byContradiction fun hz => hno ⟨q, hq, hz⟩
        simpa using this
      · rw [vec_ge (by rw [hl]; exact hq)]; rfl)
    rw [hn] at h0; cases h0
  have key := circ_least hM hS hcc hv (fun j hj hjS => by
    rcases hw j hj with h0 | h0
    · exact h0
    · exact absurd ((hs j).1 h0) hjS) hnz
  intro j hj
  constructor
  · intro h0
    refine Classical.byContradiction fun hcj => ?_
    exact key j ((hs j).1 hcj) h0
  · intro h0
    rcases hw j hj with h2 | h2
    · exact h2
    · exact absurd h0 h2
theorem nzc_supp {n : Nat} : ∀ {c : List Int}, c.length = n → nzc c = (suppL n (vec c)).length := by
  intro c hc
  unfold suppL
  rw [List.length_map, ← List.countP_eq_length_filter]
  have e : c = (List.range n).map (fun q => vec c q) := by
    refine List.ext_getElem (by simp [hc]) fun i h1 h2 => ?_
    simp only [List.getElem_map, List.getElem_range]
    exact (vec_lt h1).symm
  unfold nzc
  conv => lhs; rw [e]
  rw [List.countP_map]
  rfl
theorem supp_eq {n : Nat} {S : List Int} (hS : SetOk n S) {v : Vec} (h : ∀ j : Nat, v j ≠ 0 ↔ (j : Int) ∈ S) : (suppL n v).length = S.length := by
  have h1 := suppL_ok n v
  have e : (suppL n v).map Int.toNat = S.map Int.toNat := by
    refine asc_eq ?_ ?_ fun x => ?_
    · rw [List.pairwise_map]
      refine h1.1.imp_of_mem fun {a b} ha hb hab => ?_
      have := h1.2 a ha; have := h1.2 b hb; omega
    · rw [List.pairwise_map]
      refine hS.1.imp_of_mem fun {a b} ha hb hab => ?_
      have := hS.2 a ha; have := hS.2 b hb; omega
    · constructor
      · intro hx
        obtain ⟨y, hy, rfl⟩ := List.mem_map.1 hx
        have hb := h1.2 y hy
        have hy' : ((y.toNat : Nat) : Int) ∈ suppL n v := by rw [show ((y.toNat : Nat) : Int) = y by omega]; exact hy
        have := (h y.toNat).1 (mem_suppL.1 hy').2
        exact List.mem_map.2 ⟨_, this, by omega⟩
      · intro hx
        obtain ⟨y, hy, rfl⟩ := List.mem_map.1 hx
        have hb := hS.2 y hy
        have hy' : ((y.toNat : Nat) : Int) ∈ S := by rw [show ((y.toNat : Nat) : Int) = y by omega]; exact hy
        have := mem_suppL.2 ⟨show y.toNat < n by omega, (h y.toNat).2 hy'⟩
        exact List.mem_map.2 ⟨_, this, by omega⟩
  have := congrArg List.length e
  simpa using this
theorem flat_head {α : Type} (f : Nat → List α) {N k : Nat} (hk : k < N) (hf : f k ≠ []) {c : α} {t : List α} (h : (List.range N).flatMap f = c :: t) : ∃ k0, k0 ≤ k ∧ c ∈ f k0 := by
  have e : List.range N = List.range (k + 1) ++ (List.range' (k + 1) (N - (k + 1))) := by
    rw [List.range_eq_range', List.range_eq_range']
    have := @List.range'_append_1 0 (k + 1) (N - (k + 1))
    rw [Nat.zero_add] at this
    rw [this]; congr 1; omega
  rw [e, List.flatMap_append] at h
  cases hl : (List.range (k + 1)).flatMap f with
  | nil =>
    have := List.flatMap_eq_nil_iff.1 hl k (List.mem_range.2 (by omega))
    exact absurd this hf
  | cons d u =>
    rw [hl] at h
    have hd : d = c := by simpa using (List.cons.inj h).1
    have : d ∈ (List.range (k + 1)).flatMap f := by rw [hl]; exact List.mem_cons_self ..
    obtain ⟨k0, hk0, hm⟩ := List.mem_flatMap.1 this
    exact ⟨k0, by have := List.mem_range.1 hk0; omega, hd ▸ hm⟩
/-- columns that are not independent hold a circuit: the first one has no more pixels -/
theorem dep_spark {M : Mask} {l : List Int} (hp : pixE M l = 0) (hd : decide (rankF (colsF M l) l.length = l.length) = false) : (circV M).2 = 0 ∧ nzc (circV M).1 ≤ l.length := by
  obtain ⟨hok, hso⟩ := pix_ok hp
  obtain ⟨hM, h1, h6, hc1, hc10⟩ := okM_ok hok
  have hrk := (hM.cols l).rank_ker
  have hne : rankF (colsF M l) l.length ≠ l.length := of_decide_eq_false hd
  have hkl : 0 < (kerSP M l).length := by
    show 0 < (kernP (RP (colsF M l) l.length) (JP (colsF M l) l.length) l.length).length
    omega
  have hm : (kerSP M l)[0] ∈ kerSP M l := List.getElem_mem _
  obtain ⟨u, hu⟩ : ∃ u, u = (kerSP M l)[0] := ⟨_, rfl⟩
  rw [← hu] at hm
  obtain ⟨k1, k2, k3, f, hf, k4⟩ := (hM.cols l).kern hm
  have hv := (spread_ker (M := M) hso).2 k1
  obtain ⟨n, hn⟩ : ∃ n, n = colsM M := ⟨_, rfl⟩
  rw [← hn] at hso hv hM
  obtain ⟨v, hve⟩ : ∃ v, v = vec (spreadF n l u l.length) := ⟨_, rfl⟩
  have hnz : ∃ j, j < n ∧ v j ≠ 0 := by
    have hf2 := hso.2 l[f] (List.getElem_mem hf)
    refine ⟨(l[f]).toNat, by omega, ?_⟩
    rw [hve]
    exact (spread_nz hso k2).2 ⟨f, hf, by omega, by omega⟩
  rw [← hve] at hv
  obtain ⟨S, c, hS, hSl, hSne, hSub, hcc⟩ := circ_within hM (suppL n v).length v rfl hv hnz
  have hsl : (suppL n v).length ≤ l.length := by
    have h1 := suppL_ok n v
    have hnd : (suppL n v).Nodup := h1.1.imp (fun h => by omega)
    refine nodup_sub hnd fun y hy => ?_
    have hb := h1.2 y hy
    have hy' : ((y.toNat : Nat) : Int) ∈ suppL n v := by rw [show ((y.toNat : Nat) : Int) = y by omega]; exact hy
    have h3 := (mem_suppL.1 hy').2
    rw [hve] at h3
    obtain ⟨i, hi, e, _⟩ := (spread_nz hso k2).1 h3
    have : y = l[i] := by omega
    rw [this]; exact List.getElem_mem hi
  -- it is among the circuits
  have hS0 : 0 < S.length := by
    rcases Nat.eq_zero_or_pos S.length with h | h
    · exact absurd (List.length_eq_zero_iff.1 h) hSne
    · exact h
  have hSr : S.length ≤ rankF M n + 1 := by
    refine Classical.byContradiction fun h => ?_
    rw [circ1_many hM (by omega)] at hcc
    cases hcc
  have hSn := set_le hS
  have hcm := comb_mem n 0 S hS.1 (fun y hy => by have := hS.2 y hy; omega)
  obtain ⟨k, hk⟩ : ∃ k, S.length = k + 1 := ⟨S.length - 1, by omega⟩
  rw [hk] at hcm
  have hfk : (comb n (k + 1) 0).filterMap (circ1P M n) ≠ [] := by
    intro e
    have : c ∈ (comb n (k + 1) 0).filterMap (circ1P M n) := List.mem_filterMap.2 ⟨S, hcm, hcc⟩
    rw [e] at this; cases this
  have hkN : k < min (rankF M n + 1) n := by omega
  cases hC : circP M n with
  | nil =>
    exfalso
    have : c ∈ circP M n := circP_mem.2 ⟨k, S, hkN, hcm, hcc⟩
    rw [hC] at this; cases this
  | cons c0 t =>
    rw [hn] at hC
    rw [circV_cons hok hC]
    refine ⟨rfl, ?_⟩
    rw [← hn] at hC
    obtain ⟨k0, hk0, hm0⟩ := flat_head (fun k => (comb n (k + 1) 0).filterMap (circ1P M n)) hkN hfk hC
    obtain ⟨S0, hS0m, hcc0⟩ := List.mem_filterMap.1 hm0
    have hS0l := comb_len _ _ _ S0 hS0m
    have hS0o := comb_ok hS0m
    have hne0 : S0 ≠ [] := fun e => by rw [e] at hS0l; simp at hS0l
    have hc0l := (circ_facts hM hS0o hne0 hcc0).1
    show nzc c0 ≤ l.length
    rw [nzc_supp hc0l, supp_eq hS0o (circ_supp hM hS0o hcc0)]
    omega
theorem circV_some {M : Mask} (hok : okM M = true) : ((circV M).2 = 0 ↔ 0 < (circP M (colsM M)).length) := by
  cases hC : circP M (colsM M) with
  | nil => rw [circV_none hok hC]; simp
  | cons c t => rw [circV_cons hok hC]; simp
end Go.Proofs.Ytfipebkhomppmaa
