/- Plain algebra: circuits are kernel vectors of the least supports. · Plain algebra: weights, known pixels, conflicts: rows with a unit matrix behind them. -/
import Derived.Test.YtfipebkhomppmaaLinS
namespace Go.Proofs.Ytfipebkhomppmaa
section
set_option linter.unusedVariables false

theorem sm_add_at {f g : Nat → Int} {p : Nat} {x : Int} : ∀ {n : Nat}, p < n → (∀ c, c < n → f c = g c + if c = p then x else 0) → sm f n = sm g n + x
  | n, hp, h => by rw [sm_congr h, sm_add, sm_single (f := fun c => if c = p then x else 0) hp (fun k _ hne => if_neg hne), if_pos rfl]

theorem dotS_set {r : Vec} {h : List Int} {p n : Nat} {x : Int} (hp : p < n) (hl : h.length = n) : dotS r (vec (h.set p x)) n = dotS r (vec h) n + r p * (x - vec h p) := by
  unfold dotS
  refine sm_add_at hp fun c hc => ?_
  rw [vec_set (by omega)]
  by_cases e : c = p
  · subst e; rw [if_pos rfl, if_pos rfl]; grind
  · rw [if_neg e, if_neg e]; grind

/-- at place k nothing has been laid before -/
theorem spread_before {n : Nat} {S l : List Int} (h : SetOk n S) {k : Nat} (hk : k < S.length) : ∀ t, t ≤ k → vec (spreadF n S l t) (S[k]).toNat = 0
  | 0, _ => by
    unfold spreadF vec
    simp only [List.range_zero, List.foldl_nil, List.getElem?_replicate]
    split <;> rfl
  | t + 1, ht => by
    have htS : t < S.length := by omega
    have hS : S[t]?.getD 0 = S[t] := by rw [List.getElem?_eq_getElem htS]; rfl
    have g1 := h.get htS
    have g2 := h.get hk
    rw [spreadF_succ, hS, vec_set (by rw [spreadF_len]; omega), if_neg (fun c => by have := h.inj hk htS (by omega); omega)]
    exact spread_before h hk t (by omega)

theorem dot_spread {n : Nat} {S l : List Int} (h : SetOk n S) (r : Vec) : ∀ k, k ≤ S.length → dotS r (vec (spreadF n S l k)) n = sm (fun i => pickV S r i * vec l i) k
  | 0, _ => by
    unfold dotS
    rw [sm_congr (g := fun _ => 0) (fun c _ => ?_), sm_zero]; rfl
    unfold spreadF vec
    simp only [List.range_zero, List.foldl_nil, List.getElem?_replicate]
    split <;> simp
  | k + 1, hk => by
    have hkS : k < S.length := by omega
    have hS : S[k]?.getD 0 = S[k] := by rw [List.getElem?_eq_getElem hkS]; rfl
    have g1 := h.get hkS
    rw [spreadF_succ, hS, dotS_set (by omega) (spreadF_len n S l k), dot_spread h r k (by omega), spread_before h hkS k (Nat.le_refl _)]
    have : pickV S r k = r (S[k]).toNat := by unfold pickV; rw [List.getElem?_eq_getElem hkS]
    show _ = sm _ k + pickV S r k * vec l k
    rw [this]
    unfold vec
    simp

theorem spread_ker {M : List (List Int)} {n : Nat} {S l : List Int} (h : SetOk n S) : IsKer M n (vec (spreadF n S l S.length)) ↔ IsKer (colsF M S) S.length (vec l) := by
  unfold IsKer
  rw [colsF_len]
  have : ∀ q, dotS (rowv M q) (vec (spreadF n S l S.length)) n = dotS (rowv (colsF M S) q) (vec l) S.length := fun q => by
    rw [dot_spread h _ _ (Nat.le_refl _), colsF_rowv]; rfl
  constructor
  · intro hk q hq; rw [← this]; exact hk q hq
  · intro hk q hq; rw [this]; exact hk q hq

/-- where the numbers of a spread list are not 0 -/
theorem spread_nz {n : Nat} {S l : List Int} (h : SetOk n S) (hl : l.length = S.length) {c : Nat} : vec (spreadF n S l S.length) c ≠ 0 ↔ ∃ i, ∃ hi : i < S.length, S[i] = (c : Int) ∧ vec l i ≠ 0 := by
  constructor
  · intro hc
    by_cases hm : (c : Int) ∈ S
    · obtain ⟨i, hi, e⟩ := List.mem_iff_getElem.1 hm
      refine ⟨i, hi, e, fun h0 => hc ?_⟩
      have := spread_in (l := l) h S.length (Nat.le_refl _) i hi hi
      rw [show (S[i]).toNat = c by omega] at this
      rw [this]; exact h0
    · exact absurd (spread_out h hm _ (Nat.le_refl _)) hc
  · rintro ⟨i, hi, e, hz⟩ h0
    have := spread_in (l := l) h S.length (Nat.le_refl _) i hi hi
    rw [show (S[i]).toNat = c by omega, h0] at this
    exact hz this.symm

/-- a vector that is 0 outside some places is a spread list there -/
theorem spread_pick {n : Nat} {S : List Int} (h : SetOk n S) {v : Vec} (h0 : ∀ c, c < n → (c : Int) ∉ S → v c = 0) {c : Nat} (hc : c < n) : vec (spreadF n S (S.map fun j => v j.toNat) S.length) c = v c := by
  by_cases hm : (c : Int) ∈ S
  · obtain ⟨i, hi, e⟩ := List.mem_iff_getElem.1 hm
    have := spread_in (l := S.map fun j => v j.toNat) h S.length (Nat.le_refl _) i hi hi
    rw [show (S[i]).toNat = c by omega] at this
    rw [this, List.getElem?_map, List.getElem?_eq_getElem hi]
    show v (S[i]).toNat = v c
    rw [e]; rfl
  · rw [spread_out h hm _ (Nat.le_refl _), h0 c hc hm]

theorem IsKer.congr {M : List (List Int)} {n : Nat} {u v : Vec} (h : IsKer M n u) (e : ∀ c, c < n → u c = v c) : IsKer M n v := fun q hq => by
  have := h q hq
  unfold dotS at *
  rw [sm_congr (g := fun c => rowv M q c * u c) (fun c hc => by rw [e c hc])]; exact this

theorem primV_vec (h : List Int) : ∃ x y : Int, 0 < x ∧ (y = 1 ∨ y = -1) ∧ ∀ c, x * vec (primV h) c = y * vec h c := by
  obtain ⟨g, hg, e⟩ := shortF_mul h
  unfold primV
  split
  · exact ⟨g, -1, hg, .inr rfl, fun c => by rw [negF_vec, ← e c]; grind⟩
  · exact ⟨g, 1, hg, .inl rfl, fun c => by rw [e c]; omega⟩

/-- what a circuit is -/
theorem circ1_some {M : List (List Int)} {n : Nat} (h : MaskOk M n) {S c : List Int} (hS : SetOk n S) (hc : circ1P M n S = some c) :
    ∃ l, kerSP M S = [l] ∧ l.length = S.length ∧ (∀ i, i < S.length → vec l i ≠ 0) ∧ c = primV (spreadF n S l S.length) := by
  unfold circ1P at hc
  split at hc
  · rename_i l hl
    have hm : l ∈ kerSR M S := by rw [← kerS_same h, hl]; simp
    have hlen := kerSR_len hm
    by_cases h0 : l.contains 0 = true
    · rw [if_pos h0] at hc; cases hc
    · rw [if_neg h0] at hc
      cases hc
      refine ⟨l, hl, hlen, fun i hi e => h0 ?_, rfl⟩
      rw [vec_lt (by omega)] at e
      rw [List.contains_iff_mem, ← e]
      exact List.getElem_mem _
  · cases hc

/-- the support of a circuit -/
theorem circ_supp {M : List (List Int)} {n : Nat} (h : MaskOk M n) {S c : List Int} (hS : SetOk n S) (hc : circ1P M n S = some c) (j : Nat) : vec c j ≠ 0 ↔ (j : Int) ∈ S := by
  obtain ⟨l, hl, hlen, hnz, rfl⟩ := circ1_some h hS hc
  obtain ⟨x, y, hx, hy, e⟩ := primV_vec (spreadF n S l S.length)
  have h1 : vec (primV (spreadF n S l S.length)) j ≠ 0 ↔ vec (spreadF n S l S.length) j ≠ 0 := by
    have := e j
    constructor
    · intro h0 h1; rw [h1] at this; exact h0 (eq_zero_of_mul (g := x) (by omega) (by simpa using this))
    · intro h0 h1; rw [h1] at this; exact h0 (eq_zero_of_mul (g := y) (by omega) (by simpa using this.symm))
  rw [h1, spread_nz hS hlen]
  constructor
  · rintro ⟨i, hi, e, _⟩; rw [← e]; exact List.getElem_mem hi
  · intro hm
    obtain ⟨i, hi, e⟩ := List.mem_iff_getElem.1 hm
    exact ⟨i, hi, e, hnz i hi⟩

theorem kerSP_one {M : List (List Int)} {S l : List Int} (hl : kerSP M S = [l]) : ∃ f, freeF (JP (colsF M S) S.length) S.length = [f] ∧ l = shortF (rawP (RP (colsF M S) S.length) (JP (colsF M S) S.length) S.length f) := by
  unfold kerSP kernP at hl
  obtain ⟨f, hf, e⟩ : ∃ f, freeF (JP (colsF M S) S.length) S.length = [f] ∧ _ = l := by
    cases hfr : freeF (JP (colsF M S) S.length) S.length with
    | nil => rw [show freeF (pRed (colsF M S) S.length).2 S.length = [] from hfr] at hl; simp at hl
    | cons f t =>
      rw [show freeF (pRed (colsF M S) S.length).2 S.length = f :: t from hfr] at hl
      simp only [List.map_cons, List.cons.injEq] at hl
      have ht : t = [] := by simpa using hl.2
      subst ht
      exact ⟨f, rfl, hl.1⟩
  exact ⟨f, hf, e.symm⟩

/-- a kernel vector is not 0 at all of a circuit's places, if it is 0 outside them -/
theorem circ_least {M : List (List Int)} {n : Nat} (h : MaskOk M n) {S c : List Int} (hS : SetOk n S) (hc : circ1P M n S = some c) {v : Vec} (hv : IsKer M n v) (h0 : ∀ j, j < n → (j : Int) ∉ S → v j = 0) (hne : ∃ j, j < n ∧ v j ≠ 0) :
    ∀ j : Nat, (j : Int) ∈ S → v j ≠ 0 := by
  obtain ⟨l, hl, hlen, hnz, rfl⟩ := circ1_some h hS hc
  obtain ⟨f, hf, hlf⟩ := kerSP_one hl
  have hk : IsKer (colsF M S) S.length (vec (S.map fun j => v j.toNat)) := (spread_ker hS).1 (hv.congr fun c hc => (spread_pick hS h0 hc).symm)
  obtain ⟨g, hg, e⟩ := shortF_mul (rawP (RP (colsF M S) S.length) (JP (colsF M S) S.length) S.length f)
  rw [← hlf] at e
  have hfS : f < S.length := by
    have : f ∈ freeF (JP (colsF M S) S.length) S.length := by rw [hf]; simp
    simpa using (List.mem_filter.1 this).1
  -- w i * l f = l i * w f
  have key : ∀ i, i < S.length → vec (S.map fun j => v j.toNat) i * vec l f = vec l i * vec (S.map fun j => v j.toNat) f := by
    intro i hi
    have := (h.cols S).ker_one hf hk hi
    rw [← e, ← e] at this
    refine Int.eq_of_mul_eq_mul_left (show g ≠ 0 by omega) ?_
    grind
  have hw : ∀ i (hi : i < S.length), vec (S.map fun j => v j.toNat) i = v (S[i]).toNat := fun i hi => by
    unfold vec; rw [List.getElem?_map, List.getElem?_eq_getElem hi]; rfl
  have hwf : vec (S.map fun j => v j.toNat) f ≠ 0 := by
    intro hz
    obtain ⟨j, hj, hvj⟩ := hne
    have hm : (j : Int) ∈ S := by
      rcases Classical.em ((j : Int) ∈ S) with c | c
      · exact c
      · exact absurd (h0 j hj c) hvj
    obtain ⟨i, hi, ei⟩ := List.mem_iff_getElem.1 hm
    have := key i hi
    rw [hz, hw i hi, show (S[i]).toNat = j by omega, Int.mul_zero] at this
    rcases Int.mul_eq_zero.1 this with a | a
    · exact hvj a
    · exact hnz f hfS a
  intro j hm hz
  obtain ⟨i, hi, ei⟩ := List.mem_iff_getElem.1 hm
  have := key i hi
  rw [hw i hi, show (S[i]).toNat = j by omega, hz, Int.zero_mul] at this
  rcases Int.mul_eq_zero.1 this.symm with a | a
  · exact hnz i hi a
  · exact hwf a

theorem circP_mem {M : List (List Int)} {n : Nat} {c : List Int} : c ∈ circP M n ↔ ∃ k S, k < min (rankF M n + 1) n ∧ S ∈ comb n (k + 1) 0 ∧ circ1P M n S = some c := by
  unfold circP
  simp only [List.mem_flatMap, List.mem_range, List.mem_filterMap]
  constructor
  · rintro ⟨k, hk, S, hS, e⟩; exact ⟨k, S, hk, hS, e⟩
  · rintro ⟨k, S, hk, hS, e⟩; exact ⟨k, hk, S, hS, e⟩

/-- circuits are kernel vectors, primitive, not great -/
theorem circ_facts {M : List (List Int)} {n : Nat} (h : MaskOk M n) {S c : List Int} (hS : SetOk n S) (hne : S ≠ []) (hc : circ1P M n S = some c) :
    c.length = n ∧ IsKer M n (vec c) ∧ (∀ j, (vec c j).natAbs ≤ 518400) ∧ Prim (vec c) ∧ 0 < firstNz c := by
  obtain ⟨l, hl, hlen, hnz, rfl⟩ := circ1_some h hS hc
  have hm : l ∈ kerSP M S := by rw [hl]; simp
  obtain ⟨k1, k2, k3, _⟩ := (h.cols S).kern hm
  obtain ⟨x, y, hx, hy, e⟩ := primV_vec (spreadF n S l S.length)
  have hkS := (spread_ker (M := M) hS).2 k1
  have hSp : 0 < S.length := List.length_pos_iff.2 hne
  refine ⟨?_, ?_, ?_, ?_, ?_⟩
  · unfold primV
    split
    · unfold negF; rw [List.length_map, shortF_len, spreadF_len]
    · rw [shortF_len, spreadF_len]
  · intro q hq
    have h1 := hkS q hq
    refine eq_zero_of_mul (g := x) (by omega) ?_
    unfold dotS at *
    rw [← sm_mul, sm_congr (g := fun c => y * (rowv M q c * vec (spreadF n S l S.length) c)) (fun c _ => by have := e c; grind), sm_mul, h1]; simp
  · intro j
    have h1 : (vec (primV (spreadF n S l S.length)) j).natAbs ≤ (vec (spreadF n S l S.length) j).natAbs := by
      have := congrArg Int.natAbs (e j)
      rw [Int.natAbs_mul, Int.natAbs_mul] at this
      have hy1 : y.natAbs = 1 := by omega
      rw [hy1, Nat.one_mul] at this
      rw [← this]; exact Nat.le_mul_of_pos_left _ (by omega)
    refine Nat.le_trans h1 ?_
    by_cases hm : (j : Int) ∈ S
    · obtain ⟨i, hi, ei⟩ := List.mem_iff_getElem.1 hm
      have := spread_in (l := l) hS S.length (Nat.le_refl _) i hi hi
      rw [show (S[i]).toNat = j by omega] at this
      rw [this]; exact k3 i
    · rw [spread_out hS hm _ (Nat.le_refl _)]; simp
  · have hp : Prim (vec (shortF (spreadF n S l S.length))) := by
      rcases shortF_prim (spreadF n S l S.length) with a | a
      · exact a
      · exfalso
        obtain ⟨g, hg, e2⟩ := shortF_mul (spreadF n S l S.length)
        have h1 := e2 (S[0]).toNat
        rw [a, spread_in hS S.length (Nat.le_refl _) 0 hSp hSp] at h1
        exact hnz 0 hSp (by unfold vec; rw [← h1]; simp)
    unfold primV
    split
    · exact prim_neg (z := -1) (.inr rfl) (fun c => by rw [negF_vec]; omega) hp
    · exact hp
  · -- the first number that is not 0
    have hz : ∀ m : List Int, (∃ j, vec m j ≠ 0) → firstNz m ≠ 0 := by
      intro m
      induction m with
      | nil => rintro ⟨j, hj⟩; simp [vec] at hj
      | cons a m ih =>
        rintro ⟨j, hj⟩
        unfold firstNz
        by_cases ha : a = 0
        · rw [if_pos ha]
          match j, hj with
          | 0, hj => simp [vec] at hj; exact absurd ha hj
          | j + 1, hj => exact ih ⟨j, by simpa [vec] using hj⟩
        · rw [if_neg ha]; exact ha
    have hn : ∀ m : List Int, firstNz (negF m) = - firstNz m := by
      intro m
      induction m with
      | nil => rfl
      | cons a m ih =>
        show (if -a = 0 then firstNz (negF m) else -a) = -(if a = 0 then firstNz m else a)
        by_cases ha : a = 0
        · rw [if_pos ha, if_pos (by omega), ih]
        · rw [if_neg ha, if_neg (by omega)]
    have hs : firstNz (shortF (spreadF n S l S.length)) ≠ 0 := by
      refine hz _ ⟨(S[0]).toNat, fun h0 => ?_⟩
      obtain ⟨g, hg, e2⟩ := shortF_mul (spreadF n S l S.length)
      have h1 := e2 (S[0]).toNat
      rw [h0, spread_in hS S.length (Nat.le_refl _) 0 hSp hSp] at h1
      exact hnz 0 hSp (by unfold vec; rw [← h1]; simp)
    unfold primV
    split
    · rw [hn]; omega
    · omega

theorem nodup_sub {α : Type} [BEq α] [LawfulBEq α] : ∀ {l m : List α}, l.Nodup → (∀ x ∈ l, x ∈ m) → l.length ≤ m.length
  | [], _, _, _ => Nat.zero_le _
  | x :: l, m, hn, h => by
    rw [List.nodup_cons] at hn
    have hx := h x (by simp)
    have := nodup_sub (l := l) (m := m.erase x) hn.2 (fun y hy => (List.mem_erase_of_ne (fun e => hn.1 (by rw [← e]; exact hy))).2 (h y (by simp [hy])))
    rw [List.length_erase_of_mem hx] at this
    have := List.length_pos_of_mem hx
    simp only [List.length_cons]; omega

/-- where a vector is not 0 -/
def suppL (n : Nat) (v : Vec) : List Int := ((List.range n).filter (fun c => decide (v c ≠ 0))).map (fun c : Nat => (c : Int))
theorem mem_suppL {n : Nat} {v : Vec} {j : Nat} : (j : Int) ∈ suppL n v ↔ j < n ∧ v j ≠ 0 := by
  unfold suppL
  simp only [List.mem_map, List.mem_filter, List.mem_range]
  constructor
  · rintro ⟨c, ⟨h1, h2⟩, e⟩
    have : c = j := by omega
    subst this; exact ⟨h1, by simpa using h2⟩
  · rintro ⟨h1, h2⟩; exact ⟨j, ⟨h1, by simpa using h2⟩, rfl⟩
theorem suppL_ok (n : Nat) (v : Vec) : SetOk n (suppL n v) := by
  constructor
  · unfold suppL
    rw [List.pairwise_map]
    exact (List.pairwise_lt_range.filter _).imp (fun h => by omega)
  · intro y hy
    unfold suppL at hy
    obtain ⟨c, hc, rfl⟩ := List.mem_map.1 hy
    have := List.mem_range.1 (List.mem_filter.1 hc).1
    omega

/-- within a kernel vector's support there is a circuit -/
theorem circ_within {M : List (List Int)} {n : Nat} (h : MaskOk M n) : ∀ (s : Nat) (v : Vec), (suppL n v).length = s → IsKer M n v → (∃ j, j < n ∧ v j ≠ 0) → ∃ S c, SetOk n S ∧ S.length ≤ s ∧ S ≠ [] ∧ (∀ y ∈ S, y ∈ suppL n v) ∧ circ1P M n S = some c := by
  intro s
  induction s using Nat.strongRecOn with
  | ind s ih =>
    intro v hs hv hne
    have hS := suppL_ok n v
    obtain ⟨S, hSe⟩ : ∃ S, S = suppL n v := ⟨_, rfl⟩
    rw [← hSe] at hS hs
    have h0 : ∀ j, j < n → (j : Int) ∉ S → v j = 0 := fun j hj hm => by
      rcases Classical.em (v j = 0) with c | c
      · exact c
      · exact absurd (by rw [hSe]; exact mem_suppL.2 ⟨hj, c⟩) hm
    have hne2 : S ≠ [] := by
      obtain ⟨j, hj, hvj⟩ := hne
      intro e
      have : (j : Int) ∈ S := by rw [hSe]; exact mem_suppL.2 ⟨hj, hvj⟩
      rw [e] at this; simp at this
    have hk : IsKer (colsF M S) S.length (vec (S.map fun j => v j.toNat)) := (spread_ker hS).1 (hv.congr fun c hc => (spread_pick hS h0 hc).symm)
    have hc := h.cols S
    have hw : ∀ i (hi : i < S.length), vec (S.map fun j => v j.toNat) i ≠ 0 := fun i hi => by
      have : vec (S.map fun j => v j.toNat) i = v (S[i]).toNat := by unfold vec; rw [List.getElem?_map, List.getElem?_eq_getElem hi]; rfl
      rw [this]
      have hm : ((S[i]).toNat : Int) ∈ suppL n v := by
        have g := hS.get hi
        rw [show ((S[i]).toNat : Int) = S[i] by omega, ← hSe]; exact List.getElem_mem hi
      exact (mem_suppL.1 hm).2
    -- the free columns
    have hfree : ∃ f, f < S.length ∧ f ∉ JP (colsF M S) S.length := by
      refine Classical.byContradiction fun hno => ?_
      have hall : ∀ f, f < S.length → f ∈ JP (colsF M S) S.length := fun f hf => Classical.byContradiction fun hn => hno ⟨f, hf, hn⟩
      have hSp : 0 < S.length := List.length_pos_iff.2 hne2
      obtain ⟨i, hi, e⟩ := mem_jf (hall 0 hSp)
      have hr := hc.ker_iff.1 hk i hi
      rw [hc.dot_row _ hi, sm_congr (g := fun _ => 0) (fun c hcl => if_pos (hall c hcl)), sm_zero, e] at hr
      have hp : 0 < rowv (RP (colsF M S) S.length) i (jf (JP (colsF M S) S.length) i) := ((hc.inv S.length).pp i hi).2
      rw [e] at hp
      rcases Int.mul_eq_zero.1 (show rowv (RP (colsF M S) S.length) i 0 * vec (S.map fun j => v j.toNat) 0 = 0 by omega) with a | a
      · omega
      · exact hw 0 hSp a
    obtain ⟨f, hf, hfJ⟩ := hfree
    have hfm : f ∈ freeF (JP (colsF M S) S.length) S.length := List.mem_filter.2 ⟨by simpa using hf, by simpa using hfJ⟩
    rcases Classical.em (∃ f2, f2 ∈ freeF (JP (colsF M S) S.length) S.length ∧ f2 ≠ f) with ⟨f2, hf2, hne3⟩ | hone
    · -- a second free column: a vector with a smaller support
      obtain ⟨g1, g2⟩ := List.mem_filter.1 hf2
      have hf2S : f2 < S.length := by simpa using g1
      have hf2J : f2 ∉ JP (colsF M S) S.length := by simpa using g2
      obtain ⟨t, ht, _, r1, r2, _⟩ := hc.raw hf hfJ
      have hrk := hc.raw_ker hf hfJ
      have hlen : (rawP (RP (colsF M S) S.length) (JP (colsF M S) S.length) S.length f).length = S.length := by unfold rawP; rw [fillF_len]; simp
      obtain ⟨u, hu⟩ : ∃ u, u = vec (spreadF n S (rawP (RP (colsF M S) S.length) (JP (colsF M S) S.length) S.length f) S.length) := ⟨_, rfl⟩
      have huk : IsKer M n u := by rw [hu]; exact (spread_ker hS).2 hrk
      have hsub : ∀ y ∈ suppL n u, y ∈ S ∧ y ≠ S[f2] := by
        intro y hy
        have gy := (suppL_ok n u).2 y hy
        have hy' : ((y.toNat : Nat) : Int) ∈ suppL n u := by rw [show ((y.toNat : Nat) : Int) = y by omega]; exact hy
        obtain ⟨_, hz⟩ := mem_suppL.1 hy'
        rw [hu] at hz
        obtain ⟨i, hi, ei, hzi⟩ := (spread_nz hS hlen).1 hz
        have e1 : S[i] = y := by omega
        refine ⟨by rw [← e1]; exact List.getElem_mem hi, fun e2 => ?_⟩
        have := hS.inj hi hf2S (by rw [e1, e2])
        subst this
        exact hzi (r2 i hf2J hne3)
      have hlt : (suppL n u).length < s := by
        have hnd : (suppL n u).Nodup := (suppL_ok n u).1.imp (fun h => by omega)
        have h1 : (S[f2] :: suppL n u).length ≤ S.length := by
          refine nodup_sub ?_ ?_
          · exact List.nodup_cons.2 ⟨fun hm => (hsub _ hm).2 rfl, hnd⟩
          · intro y hy
            rcases List.mem_cons.1 hy with rfl | hy
            · exact List.getElem_mem hf2S
            · exact (hsub y hy).1
        simp only [List.length_cons] at h1
        omega
      have hune : ∃ j, j < n ∧ u j ≠ 0 := by
        have g := hS.get hf
        refine ⟨(S[f]).toNat, by omega, ?_⟩
        rw [hu, spread_nz hS hlen]
        exact ⟨f, hf, by omega, by rw [r1]; omega⟩
      obtain ⟨T, c, t1, t2, t3, t4, t5⟩ := ih _ hlt u rfl huk hune
      exact ⟨T, c, t1, by omega, t3, fun y hy => by rw [← hSe]; exact (hsub y (t4 y hy)).1, t5⟩
    · -- one free column: a circuit
      have hone' : freeF (JP (colsF M S) S.length) S.length = [f] := by
        have hall : ∀ x ∈ freeF (JP (colsF M S) S.length) S.length, x = f := fun x hx => Classical.byContradiction fun hn => hone ⟨x, hx, hn⟩
        have hnd : (freeF (JP (colsF M S) S.length) S.length).Nodup := List.Pairwise.filter _ List.nodup_range
        match hL : freeF (JP (colsF M S) S.length) S.length, hall, hnd with
        | [], _, _ => rw [hL] at hfm; simp at hfm
        | [x], hall, _ => rw [hall x (by simp)]
        | x :: y :: t, hall, hnd =>
          have h1 := hall x (by simp)
          have h2 := hall y (by simp)
          rw [h1, h2] at hnd
          simp at hnd
      have hl : kerSP M S = [shortF (rawP (RP (colsF M S) S.length) (JP (colsF M S) S.length) S.length f)] := by
        show (freeF (JP (colsF M S) S.length) S.length).map _ = _
        rw [hone']; rfl
      refine ⟨S, primV (spreadF n S (shortF (rawP (RP (colsF M S) S.length) (JP (colsF M S) S.length) S.length f)) S.length), hS, by omega, hne2, fun y hy => by rw [← hSe]; exact hy, ?_⟩
      unfold circ1P
      rw [hl]
      simp only []
      rw [if_neg]
      intro h0'
      have hm : (0 : Int) ∈ shortF (rawP (RP (colsF M S) S.length) (JP (colsF M S) S.length) S.length f) := by simpa using h0'
      obtain ⟨i, hi, ei⟩ := List.mem_iff_getElem.1 hm
      have hiS : i < S.length := by
        rw [shortF_len] at hi
        unfold rawP at hi
        rw [fillF_len] at hi
        simpa using hi
      have h1 := hc.ker_one hone' hk hiS
      obtain ⟨g, hg, e⟩ := shortF_mul (rawP (RP (colsF M S) S.length) (JP (colsF M S) S.length) S.length f)
      have h2 := e i
      rw [vec_lt hi, ei, Int.mul_zero] at h2
      rw [← h2, Int.zero_mul] at h1
      obtain ⟨t, ht, _, r1, _⟩ := hc.raw hf hfJ
      rw [r1] at h1
      rcases Int.mul_eq_zero.1 h1 with a | a
      · exact hw i hiS a
      · omega
end

section
set_option linter.unusedVariables false

/-- the row i of a unit matrix -/
def unitF (N i : Nat) : List Int := (List.replicate N 0).set i 1
/-- rows with a unit matrix behind them -/
def extF (M : List (List Int)) : List (List Int) := M.mapIdx (fun i r => r ++ unitF M.length i)
theorem extF_len (M : List (List Int)) : (extF M).length = M.length := by simp [extF]
theorem extF_get {M : List (List Int)} {i : Nat} (h : i < M.length) : (extF M)[i]? = some (M[i] ++ unitF M.length i) := by
  unfold extF; rw [List.getElem?_mapIdx, List.getElem?_eq_getElem h]; rfl
theorem extF_mem {M : List (List Int)} {r : List Int} (h : r ∈ extF M) : ∃ i, ∃ hi : i < M.length, r = M[i] ++ unitF M.length i := by
  obtain ⟨i, hi, rfl⟩ := List.mem_iff_getElem.1 h
  rw [extF_len] at hi
  have := extF_get hi
  rw [List.getElem?_eq_getElem (by rw [extF_len]; exact hi)] at this
  exact ⟨i, hi, Option.some.inj this⟩
theorem unitF_len (N i : Nat) : (unitF N i).length = N := by simp [unitF]
theorem unitF_vec {N i : Nat} (hi : i < N) (c : Nat) : vec (unitF N i) c = if c = i then 1 else 0 := by
  unfold unitF
  rw [vec_set (by simpa using hi)]
  split
  · rfl
  · unfold vec; rw [List.getElem?_replicate]; split <;> rfl
theorem vec_app_lt {a b : List Int} {c : Nat} (h : c < a.length) : vec (a ++ b) c = vec a c := by unfold vec; rw [List.getElem?_append_left h]
theorem vec_app_ge {a b : List Int} {c : Nat} (h : a.length ≤ c) : vec (a ++ b) c = vec b (c - a.length) := by unfold vec; rw [List.getElem?_append_right h]

structure ExtOk (M : List (List Int)) (n : Nat) : Prop where
  wid : ∀ r ∈ extF M, r.length = n + M.length
  one : ∀ r ∈ extF M, ∀ c, -1 ≤ vec r c ∧ vec r c ≤ 1
theorem MaskOk.ext {M : List (List Int)} {n : Nat} (h : MaskOk M n) : ExtOk M n := by
  constructor
  · intro r hr
    obtain ⟨i, hi, rfl⟩ := extF_mem hr
    rw [List.length_append, unitF_len, h.wid _ (List.getElem_mem hi)]
  · intro r hr c
    obtain ⟨i, hi, rfl⟩ := extF_mem hr
    rcases Nat.lt_or_ge c (M[i]).length with hc | hc
    · rw [vec_app_lt hc]; exact h.one _ (List.getElem_mem hi) c
    · rw [vec_app_ge hc, unitF_vec hi]; split <;> decide

theorem ext_row {M : List (List Int)} {n : Nat} (h : MaskOk M n) {i : Nat} (hi : i < M.length) (c : Nat) : rowv (extF M) i c = if c < n then rowv M i c else if c - n = i then 1 else 0 := by
  unfold rowv
  rw [extF_get hi, List.getElem?_eq_getElem hi]
  simp only [Option.getD_some]
  have hw := h.wid _ (List.getElem_mem hi)
  by_cases hc : c < n
  · rw [if_pos hc, vec_app_lt (by omega)]
  · rw [if_neg hc, vec_app_ge (by omega), unitF_vec hi, hw]

/-- the reduced rows with their weights -/
abbrev RE (M : List (List Int)) (n : Nat) : List (List Int) := (pRed (extF M) n).1
abbrev JE (M : List (List Int)) (n : Nat) : List Nat := (pRed (extF M) n).2
theorem MaskOk.einv {M : List (List Int)} {n : Nat} (h : MaskOk M n) (t : Nat) : RInv (n + M.length) M.length (rowv (extF M)) t (pRed (extF M) t).1 (pRed (extF M) t).2 := by
  have := pRed_inv (extF M) h.ext.wid t (fun j _ q => rowv_le (by decide) (fun r hr => h.ext.one r hr j) q)
  rwa [extF_len] at this

theorem MaskOk.re_le {M : List (List Int)} {n : Nat} (h : MaskOk M n) {t : Nat} (k c : Nat) : -720 ≤ vec ((pRed (extF M) t).1[k]?.getD []) c ∧ vec ((pRed (extF M) t).1[k]?.getD []) c ≤ 720 := by
  cases hk : (pRed (extF M) t).1[k]? with
  | none => simp [vec]
  | some r =>
    have := (pRed_le (n := t) (Y := 1) h.ext.wid (by rw [extF_len]; exact h.le6) (fun r hr c _ => h.ext.one r hr c) (fun r hr => mem_vec (P := fun x => -((1 : Nat) : Int) ≤ x ∧ x ≤ ((1 : Nat) : Int)) fun c => by have := h.ext.one r hr c; omega) (Nat.le_refl t) r (List.mem_of_getElem? hk)).2
    have h2 := vec_le (Y := 720) (by decide) (fun x hx => by have := this x hx; omega) c
    simpa using h2

/-- the first n numbers -/
def truncV (n : Nat) (v : Vec) : Vec := fun c => if c < n then v c else 0
theorem truncV_sp {B B' : Vec → Prop} {n : Nat} (hB : ∀ v, B v → Sp B' (truncV n v)) {v : Vec} (h : Sp B v) : Sp B' (truncV n v) :=
  Sp.map (truncV n) (by funext c; unfold truncV; split <;> rfl) (fun u v => by funext c; unfold truncV; split <;> simp) (fun k u => by funext c; unfold truncV; split <;> simp) hB h
theorem MaskOk.row_trunc {M : List (List Int)} {n : Nat} (h : MaskOk M n) {q : Nat} (hq : q < M.length) : truncV n (rowv (extF M) q) = rowv M q := by
  funext c
  unfold truncV
  by_cases hc : c < n
  · rw [if_pos hc, ext_row h hq, if_pos hc]
  · rw [if_neg hc, rowv_wid h.wid q (by omega)]

/-- the reduced rows with weights are the reduced rows, up to multiples -/
theorem MaskOk.ext_same {M : List (List Int)} {n : Nat} (h : MaskOk M n) : JE M n = JP M n ∧ ∀ k, k < (JP M n).length → ∀ c, c < n →
    rowv (RP M n) k (jf (JP M n) k) * rowv (RE M n) k c = rowv (RE M n) k (jf (JP M n) k) * rowv (RP M n) k c := by
  have he := h.einv n
  have hi := h.inv n
  have hE : Ech (JE M n).length (jf (JE M n)) (fun k => truncV n (rowv (RE M n) k)) := by
    have e := he.ech
    refine ⟨⟨fun k hk => ?_, fun k hk q hq hne => ?_⟩, fun k hk c hc => ?_, e.asc⟩
    · have hl := he.jf_lt hk
      simp only [truncV, if_pos hl]
      exact e.red.piv k hk
    · have hl := he.jf_lt hq
      simp only [truncV, if_pos hl]
      exact e.red.off k hk q hq hne
    · simp only [truncV]
      split
      · exact e.lead k hk c hc
      · rfl
  have s1 : ∀ k, k < (JE M n).length → Sp (RB (JP M n).length (rowv (RP M n))) (truncV n (rowv (RE M n) k)) := by
    intro k hk
    refine h.span.2 (truncV_sp (B := RB M.length (rowv (extF M))) ?_ (he.sp1 k (Nat.lt_of_lt_of_le hk he.K_le)))
    rintro v ⟨q, hq, rfl⟩
    rw [h.row_trunc hq]; exact RB.sp hq
  have s2 : ∀ k, k < (JP M n).length → Sp (RB (JE M n).length (fun k => truncV n (rowv (RE M n) k))) (rowv (RP M n) k) := by
    intro k hk
    refine (h.span.1 (RB.sp hk)).trans ?_
    rintro v ⟨q, hq, rfl⟩
    rw [← h.row_trunc hq]
    refine truncV_sp (B := RB M.length (rowv (RE M n))) ?_ (he.sp2 q hq)
    rintro v ⟨m, hm, rfl⟩
    rcases Nat.lt_or_ge m (JE M n).length with c | c
    · exact .of ⟨m, c, rfl⟩
    · refine Sp.zero.congr fun x => ?_
      unfold truncV
      split
      · exact he.zero m c hm x ‹_›
      · rfl
  obtain ⟨hK, hJ, hR⟩ := hE.unique hi.ech s1 s2
  have hJJ : JE M n = JP M n := List.ext_getElem hK fun k h1 h2 => by
    have := hJ k h1
    unfold jf at this
    rw [List.getElem?_eq_getElem h1, List.getElem?_eq_getElem h2] at this
    simpa using this
  refine ⟨hJJ, fun k hk c hc => ?_⟩
  have := hR k (by rw [hJJ]; exact hk) c
  rw [hJJ] at this
  have hl := hi.jf_lt hk
  simp only [truncV, if_pos hc, if_pos hl] at this
  exact this

/-- a pixel's weight: the pivot's row has 0 at the other pixels -/
def knownAt (M : List (List Int)) (n k p : Nat) : Prop := k < (JP M n).length ∧ jf (JP M n) k = p ∧ ∀ c, c < n → c ≠ p → rowv (RE M n) k c = 0
def knownF (M : List (List Int)) (n p : Nat) : Prop := ∃ k, knownAt M n k p

theorem MaskOk.piv_pos {M : List (List Int)} {n : Nat} (h : MaskOk M n) {k : Nat} (hk : k < (JP M n).length) : 0 < rowv (RP M n) k (jf (JP M n) k) ∧ 0 < rowv (RE M n) k (jf (JP M n) k) := by
  refine ⟨((h.inv n).pp k hk).2, ?_⟩
  have e := h.ext_same.1
  have := ((h.einv n).pp k (by rw [show (pRed (extF M) n).2 = JP M n from e]; exact hk)).2
  rwa [show (pRed (extF M) n).2 = JP M n from e] at this

theorem MaskOk.re_zero {M : List (List Int)} {n : Nat} (h : MaskOk M n) {k : Nat} (hk : k < (JP M n).length) {c : Nat} (hc : c < n) : rowv (RE M n) k c = 0 ↔ rowv (RP M n) k c = 0 := by
  have e := h.ext_same.2 k hk c hc
  obtain ⟨p1, p2⟩ := h.piv_pos hk
  constructor
  · intro h0; rw [h0, Int.mul_zero] at e; exact eq_zero_of_mul (g := rowv (RE M n) k (jf (JP M n) k)) (by omega) e.symm
  · intro h0; rw [h0, Int.mul_zero] at e; exact eq_zero_of_mul (g := rowv (RP M n) k (jf (JP M n) k)) (by omega) e

/-- a pixel is known if all kernel vectors are 0 there -/
theorem MaskOk.known_iff {M : List (List Int)} {n : Nat} (h : MaskOk M n) {p : Nat} (hp : p < n) : knownF M n p ↔ ∀ v, IsKer M n v → v p = 0 := by
  have hi := h.inv n
  constructor
  · rintro ⟨k, hk, rfl, h0⟩ v hv
    have := h.ker_iff.1 hv k hk
    rw [h.dot_row _ hk, sm_congr (g := fun _ => 0) (fun c hc => ?_), sm_zero] at this
    · obtain ⟨p1, _⟩ := h.piv_pos hk
      exact eq_zero_of_mul (g := rowv (RP M n) k (jf (JP M n) k)) (by omega) (by omega)
    · split
      · rfl
      · rename_i hcJ
        rw [(h.re_zero hk hc).1 (h0 c hc (fun e => hcJ (e ▸ jf_mem hk)))]; simp
  · intro hall
    have hpJ : p ∈ JP M n := Classical.byContradiction fun hn => by
      obtain ⟨t, ht, _, r1, _⟩ := h.raw hp hn
      have := hall _ (h.raw_ker hp hn)
      omega
    obtain ⟨k, hk, e⟩ := mem_jf hpJ
    refine ⟨k, hk, e, fun c hc hne => (h.re_zero hk hc).2 ?_⟩
    by_cases hcJ : c ∈ JP M n
    · obtain ⟨i, hilt, rfl⟩ := mem_jf hcJ
      exact hi.ech.red.off k hk i hilt (fun e2 => hne (by rw [← e, e2]))
    · obtain ⟨t, ht, _, _, _, r3⟩ := h.raw hc hcJ
      have h1 := hall _ (h.raw_ker hc hcJ)
      have h2 := r3 k hk
      rw [e, h1, Int.zero_mul] at h2
      rcases Int.mul_eq_zero.1 h2.symm with a | a
      · omega
      · omega

/-- the reference's: all kernel vectors of the list are 0 there -/
theorem MaskOk.known_ref {M : List (List Int)} {n : Nat} (h : MaskOk M n) {p : Nat} (hp : p < n) : knownF M n p ↔ ∀ l ∈ kernP (RP M n) (JP M n) n, vec l p = 0 := by
  constructor
  · intro hk l hl
    exact (h.known_iff hp).1 hk _ (h.kern hl).1
  · intro hall
    have hz : ∀ f, f < n → f ∉ JP M n → vec (rawP (RP M n) (JP M n) n f) p = 0 := by
      intro f hf hfJ
      have hm : kerP (RP M n) (JP M n) n f ∈ kernP (RP M n) (JP M n) n := List.mem_map.2 ⟨f, List.mem_filter.2 ⟨by simpa using hf, by simpa using hfJ⟩, rfl⟩
      have := hall _ hm
      obtain ⟨g, hg, e⟩ := shortF_mul (rawP (RP M n) (JP M n) n f)
      have h1 := e p
      rw [show vec (shortF (rawP (RP M n) (JP M n) n f)) p = 0 from this, Int.mul_zero] at h1
      exact h1.symm
    have hpJ : p ∈ JP M n := Classical.byContradiction fun hn => by
      obtain ⟨t, ht, _, r1, _⟩ := h.raw hp hn
      have := hz p hp hn
      omega
    obtain ⟨k, hk, e⟩ := mem_jf hpJ
    refine ⟨k, hk, e, fun c hc hne => (h.re_zero hk hc).2 ?_⟩
    by_cases hcJ : c ∈ JP M n
    · obtain ⟨i, hilt, rfl⟩ := mem_jf hcJ
      exact (h.inv n).ech.red.off k hk i hilt (fun e2 => hne (by rw [← e, e2]))
    · obtain ⟨t, ht, _, _, _, r3⟩ := h.raw hc hcJ
      have h1 := hz c hc hcJ
      have h2 := r3 k hk
      rw [e, h1, Int.zero_mul] at h2
      rcases Int.mul_eq_zero.1 h2.symm with a | a
      · omega
      · omega

/-! weights -/
/-- the weights of a vector behind its first n numbers -/
def wtV (n : Nat) (v : Vec) : Vec := fun i => v (n + i)
/-- a vector of the rows' span is the sum of its weights' multiples of the rows -/
theorem MaskOk.weigh {M : List (List Int)} {n : Nat} (h : MaskOk M n) {v : Vec} (hv : Sp (RB M.length (rowv (extF M))) v) {c : Nat} (hc : c < n) : v c = sm (fun i => wtV n v i * rowv M i c) M.length := by
  induction hv with
  | of hb =>
    obtain ⟨q, hq, rfl⟩ := hb
    rw [ext_row h hq, if_pos hc, sm_single hq (fun i hi hne => ?_)]
    · unfold wtV; rw [ext_row h hq, if_neg (by omega), if_pos (by omega)]; simp
    · unfold wtV; rw [ext_row h hq, if_neg (by omega), if_neg (by omega)]; simp
  | zero => rw [sm_congr (g := fun _ => 0) (fun k _ => by simp [wtV]), sm_zero]
  | @add u v _ _ h1 h2 => rw [sm_congr (g := fun i => wtV n u i * rowv M i c + wtV n v i * rowv M i c) (fun k _ => by unfold wtV; grind), sm_add, ← h1, ← h2]
  | @mul k u _ h1 => rw [sm_congr (g := fun i => k * (wtV n u i * rowv M i c)) (fun i _ => by unfold wtV; grind), sm_mul, ← h1]
  | @div k u hk _ h1 =>
    rw [sm_congr (g := fun i => k * (wtV n u i * rowv M i c)) (fun i _ => by unfold wtV; grind), sm_mul] at h1
    exact Int.eq_of_mul_eq_mul_left hk h1

/-- the weights times a reading -/
def dotY (n : Nat) (v y : Vec) (N : Nat) : Int := sm (fun i => wtV n v i * y i) N

theorem withY_row {M : List (List Int)} {n : Nat} (h : MaskOk M n) {y : List Int} (hy : y.length = M.length) {q : Nat} (hq : q < M.length) (c : Nat) :
    rowv (withY M y) q c = if c < n then rowv M q c else if c = n then vec y q else 0 := by
  have hw := h.wid _ (List.getElem_mem hq)
  have e : (withY M y)[q]? = some (M[q] ++ [y[q]]) := by unfold withY; rw [List.getElem?_zipWith, List.getElem?_eq_getElem hq, List.getElem?_eq_getElem (by omega)]
  unfold rowv
  rw [e, List.getElem?_eq_getElem hq]
  simp only [Option.getD_some]
  by_cases hc : c < n
  · rw [if_pos hc, vec_app_lt (by rw [hw]; exact hc)]
  · rw [if_neg hc, vec_app_ge (by rw [hw]; omega), hw]
    by_cases e2 : c = n
    · rw [if_pos e2, e2, Nat.sub_self, vec_lt (l := [y[q]]) (by simp), vec_lt (l := y) (by omega)]; rfl
    · rw [if_neg e2, vec_ge (by simp; omega)]

/-- a vector with weights, as one of the rows with a reading -/
def gY (n : Nat) (y : Vec) (N : Nat) (v : Vec) : Vec := fun c => if c < n then v c else if c = n then dotY n v y N else 0
theorem gY_row {M : List (List Int)} {n : Nat} (h : MaskOk M n) {y : List Int} (hy : y.length = M.length) {q : Nat} (hq : q < M.length) : gY n (vec y) M.length (rowv (extF M) q) = rowv (withY M y) q := by
  funext c
  rw [withY_row h hy hq]
  unfold gY
  by_cases hc : c < n
  · rw [if_pos hc, if_pos hc, ext_row h hq, if_pos hc]
  · rw [if_neg hc, if_neg hc]
    by_cases e : c = n
    · rw [if_pos e, if_pos e]
      unfold dotY wtV
      rw [sm_single hq (fun i hi hne => by rw [ext_row h hq, if_neg (by omega), if_neg (by omega)]; simp), ext_row h hq, if_neg (by omega), if_pos (by omega)]; simp
    · rw [if_neg e, if_neg e]
theorem gY_sp {M : List (List Int)} {n : Nat} (h : MaskOk M n) {y : List Int} (hy : y.length = M.length) {v : Vec} (hv : Sp (RB M.length (rowv (extF M))) v) : Sp (RB M.length (rowv (withY M y))) (gY n (vec y) M.length v) := by
  refine Sp.map (gY n (vec y) M.length) ?_ ?_ ?_ ?_ hv
  · funext c; unfold gY dotY wtV
    rw [sm_congr (g := fun _ => 0) (fun k _ => by simp), sm_zero]; split <;> (try split) <;> rfl
  · intro u v; funext c; unfold gY dotY wtV
    rw [sm_congr (g := fun i => u (n + i) * vec y i + v (n + i) * vec y i) (fun k _ => by grind), sm_add]
    split
    · rfl
    · split <;> simp
  · intro k u; funext c; unfold gY dotY wtV
    rw [sm_congr (g := fun i => k * (u (n + i) * vec y i)) (fun i _ => by grind), sm_mul]
    split
    · rfl
    · split <;> simp
  · rintro v ⟨q, hq, rfl⟩
    rw [gY_row h hy hq]; exact RB.sp hq
/-- each vector of the rows with a reading is such a one, up to a multiple -/
theorem gY_all {M : List (List Int)} {n : Nat} (h : MaskOk M n) {y : List Int} (hy : y.length = M.length) {v : Vec} (hv : Sp (RB M.length (rowv (withY M y))) v) : ∃ k : Int, k ≠ 0 ∧ ∃ u, Sp (RB M.length (rowv (extF M))) u ∧ ∀ c, gY n (vec y) M.length u c = k * v c := by
  have lin : ∀ (x z : Int) (u w : Vec) c, gY n (vec y) M.length (fun c => x * u c + z * w c) c = x * gY n (vec y) M.length u c + z * gY n (vec y) M.length w c := by
    intro x z u w c
    unfold gY dotY wtV
    rw [sm_congr (g := fun i => x * (u (n + i) * vec y i) + z * (w (n + i) * vec y i)) (fun k _ => by grind), sm_add, sm_mul, sm_mul]
    split
    · rfl
    · split <;> simp
  induction hv with
  | of hb => obtain ⟨q, hq, rfl⟩ := hb; exact ⟨1, by decide, _, RB.sp hq, fun c => by rw [gY_row h hy hq]; simp⟩
  | zero => exact ⟨1, by decide, _, .zero, fun c => by have := lin 0 0 (fun _ => 0) (fun _ => 0) c; simp at this; simp [this]⟩
  | add _ _ h1 h2 =>
    obtain ⟨k, hk, u, hu, e⟩ := h1
    obtain ⟨m, hm, w, hw, e2⟩ := h2
    exact ⟨k * m, Int.mul_ne_zero hk hm, _, Sp.lin m k hu hw, fun c => by rw [lin, e, e2]; grind⟩
  | mul x _ h1 =>
    obtain ⟨k, hk, u, hu, e⟩ := h1
    exact ⟨k, hk, _, Sp.lin x 0 hu hu, fun c => by rw [lin, e]; grind⟩
  | @div x _ hx _ h1 =>
    obtain ⟨k, hk, u, hu, e⟩ := h1
    exact ⟨k * x, Int.mul_ne_zero hk hx, u, hu, fun c => by rw [e]; grind⟩

/-- a reading is in conflict: a row below the pivots tells -/
def confF (M : List (List Int)) (n : Nat) (y : List Int) : Prop := ∃ q, (JP M n).length ≤ q ∧ q < M.length ∧ dotY n (rowv (RE M n) q) (vec y) M.length ≠ 0
theorem MaskOk.conf_iff {M : List (List Int)} {n : Nat} (h : MaskOk M n) {y : List Int} (hy : y.length = M.length) : confF M n y ↔ n ∈ (rRed (withY M y) (n + 1)).piv := by
  have he := h.einv n
  have hJ := h.ext_same.1
  have hw : ∀ r ∈ withY M y, r.length = n + 1 := fun r hr => by
    obtain ⟨r', h1, v, _, rfl⟩ := withY_mem hr
    simp [h.wid r' h1]
  obtain ⟨k, hk⟩ := rRed_inv (withY M y) hw (n + 1)
  rw [withY_len hy] at k
  have hpiv : n ∈ (rRed (withY M y) (n + 1)).piv ↔ ∃ v, Sp (RB M.length (rowv (withY M y))) v ∧ v n ≠ 0 ∧ ∀ c, c < n → v c = 0 := by
    have h1 := k.ech.pivot_iff n
    have h2 : (∃ i, i < (rRed (withY M y) (n + 1)).piv.length ∧ jf (rRed (withY M y) (n + 1)).piv i = n) ↔ n ∈ (rRed (withY M y) (n + 1)).piv :=
      ⟨fun ⟨i, hi, e⟩ => (by have := jf_mem hi; rwa [e] at this), fun hm => mem_jf hm⟩
    rw [← h2, h1]
    have h3 : ∀ v, Sp (RB (rRed (withY M y) (n + 1)).piv.length (rowv ((rRed (withY M y) (n + 1)).done ++ (rRed (withY M y) (n + 1)).left))) v ↔ Sp (RB M.length (rowv (withY M y))) v := fun v => by
      have := k.span (v := v) (fun q h1 h2 c => by
        rcases Nat.lt_or_ge c (n + 1) with hc | hc
        · exact k.zero q h1 h2 c hc
        · exact rowv_wid k.wid q hc)
      rw [this]
      have := primF_span (withY M y) v
      rwa [withY_len hy] at this
    constructor
    · rintro ⟨v, hv, r⟩; exact ⟨v, (h3 v).1 hv, r⟩
    · rintro ⟨v, hv, r⟩; exact ⟨v, (h3 v).2 hv, r⟩
  rw [hpiv]
  constructor
  · rintro ⟨q, h1, h2, h3⟩
    refine ⟨_, gY_sp h hy (he.sp1 q h2), ?_, fun c hc => ?_⟩
    · unfold gY; rw [if_neg (by omega), if_pos rfl]; exact h3
    · unfold gY; rw [if_pos hc]; exact he.zero q (by rw [show (pRed (extF M) n).2 = JP M n from hJ]; exact h1) h2 c hc
  · rintro ⟨v, hv, hn, h0⟩
    obtain ⟨m, hm, u, hu, e⟩ := gY_all h hy hv
    have hu0 : ∀ c, c < n → u c = 0 := fun c hc => by have := e c; unfold gY at this; rw [if_pos hc, h0 c hc] at this; simpa using this
    have hun : dotY n u (vec y) M.length ≠ 0 := by
      have := e n; unfold gY at this; rw [if_neg (by omega), if_pos rfl] at this
      rw [this]; exact Int.mul_ne_zero hm hn
    -- u lies in the span of all reduced rows; its parts at the pivots are 0
    have hu2 : Sp (RB M.length (rowv (RE M n))) u := hu.trans fun w ⟨q, hq, e⟩ => e ▸ he.sp2 q hq
    refine Classical.byContradiction fun hno => ?_
    have hz : ∀ q, (JE M n).length ≤ q → q < M.length → dotY n (rowv (RE M n) q) (vec y) M.length = 0 := fun q h1 h2 => Classical.byContradiction fun h3 => hno ⟨q, by rw [← hJ]; exact h1, h2, h3⟩
    -- all vectors of the span: up to a multiple, one of the pivots' rows' span and one whose reading's product is 0
    have key : ∀ w, Sp (RB M.length (rowv (RE M n))) w → ∃ k : Int, k ≠ 0 ∧ ∃ a b : Vec, Sp (RB (JE M n).length (rowv (RE M n))) a ∧ (∀ c, c < n → b c = 0) ∧ dotY n b (vec y) M.length = 0 ∧ ∀ c, k * w c = a c + b c := by
      have dl : ∀ (x z : Int) (u w : Vec), dotY n (fun c => x * u c + z * w c) (vec y) M.length = x * dotY n u (vec y) M.length + z * dotY n w (vec y) M.length := by
        intro x z u w
        unfold dotY wtV
        rw [sm_congr (g := fun i => x * (u (n + i) * vec y i) + z * (w (n + i) * vec y i)) (fun k _ => by grind), sm_add, sm_mul, sm_mul]
      have d0 : dotY n (fun _ => 0) (vec y) M.length = 0 := by unfold dotY wtV; rw [sm_congr (g := fun _ => 0) (fun k _ => by simp), sm_zero]
      intro w hw
      induction hw with
      | of hb =>
        obtain ⟨q, hq, rfl⟩ := hb
        rcases Nat.lt_or_ge q (JE M n).length with c | c
        · exact ⟨1, by decide, _, _, RB.sp c, fun _ _ => rfl, d0, fun c => by simp⟩
        · exact ⟨1, by decide, _, _, .zero, fun x hx => he.zero q c hq x hx, hz q c hq, fun c => by simp⟩
      | zero => exact ⟨1, by decide, _, _, .zero, fun _ _ => rfl, d0, fun c => by simp⟩
      | add _ _ h1 h2 =>
        obtain ⟨k1, hk1, a1, b1, p1, q1, r1, e1⟩ := h1
        obtain ⟨k2, hk2, a2, b2, p2, q2, r2, e2⟩ := h2
        exact ⟨k1 * k2, Int.mul_ne_zero hk1 hk2, _, fun c => k2 * b1 c + k1 * b2 c, Sp.lin k2 k1 p1 p2, fun c hc => by simp only [q1 c hc, q2 c hc]; simp, by rw [dl, r1, r2]; simp, fun c => by have := e1 c; have := e2 c; grind⟩
      | mul x _ h1 =>
        obtain ⟨k1, hk1, a1, b1, p1, q1, r1, e1⟩ := h1
        exact ⟨k1, hk1, _, fun c => x * b1 c + 0 * b1 c, Sp.lin x 0 p1 p1, fun c hc => by simp only [q1 c hc]; simp, by rw [dl, r1]; simp, fun c => by have := e1 c; grind⟩
      | @div x _ hx _ h1 =>
        obtain ⟨k1, hk1, a1, b1, p1, q1, r1, e1⟩ := h1
        exact ⟨k1 * x, Int.mul_ne_zero hk1 hx, a1, b1, p1, q1, r1, fun c => by have := e1 c; grind⟩
    obtain ⟨k1, hk1, a, b, p1, q1, r1, e1⟩ := key u hu2
    have ha : ∀ c, a c = 0 := he.ech.red.zero p1 (fun k hk => by
      have h1 := e1 (jf (JE M n) k)
      have hl := he.jf_lt hk
      rw [hu0 _ hl, q1 _ hl] at h1
      have h2 : a (jf (JE M n) k) = 0 := by simpa using h1.symm
      exact h2)
    have hb : ∀ c, b c = k1 * u c := fun c => by have := e1 c; rw [ha c] at this; omega
    have : dotY n b (vec y) M.length = k1 * dotY n u (vec y) M.length := by
      unfold dotY wtV
      rw [sm_congr (g := fun i => k1 * (u (n + i) * vec y i)) (fun i _ => by rw [hb]; grind), sm_mul]
    rw [r1] at this
    exact hun (eq_zero_of_mul hk1 this.symm)
end
end Go.Proofs.Ytfipebkhomppmaa
