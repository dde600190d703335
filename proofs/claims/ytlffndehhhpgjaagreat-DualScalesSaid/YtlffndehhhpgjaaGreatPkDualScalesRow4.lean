/- Walks and plain laws for DualScalesRow, part 4. -/
import Derived.Maps.RangeWalk
import Derived.Sort.QuietIn
import Derived.Sort.LoopGhostIn
import Derived.Sort.CutIn
import Derived.BigQuiet
import Derived.Shelf.Bits.Mul64
import Derived.Shelf.Spec.BitsCarry
import Derived.Test.YtlffndehhhpgjaaGreatPkDualScalesRow3
namespace Go.Proofs.YtlffndehhhpgjaaGreat
section
set_option linter.unusedVariables false
set_option linter.unusedSimpArgs false

theorem sm_add_at {f g : Nat → Int} {p : Nat} {x : Int} : ∀ {n : Nat}, p < n → (∀ c, c < n → f c = g c + if c = p then x else 0) → sm f n = sm g n + x
  | n, hp, h => by rw [sm_congr h, sm_add, sm_single (f := fun c => if c = p then x else 0) hp (fun k _ hne => if_neg hne), if_pos rfl]

theorem dotS_set {r : Vec} {h : List Int} {p n : Nat} {x : Int} (hp : p < n) (hl : h.length = n) : dotS r (vec (h.set p x)) n = dotS r (vec h) n + r p * (x - vec h p) := by
  unfold dotS
  refine sm_add_at hp fun c hc => ?_
  rw [vec_set (by omega)]
  by_cases e : c = p
  · subst e; rw [if_pos rfl, if_pos rfl]; grind
  · rw [if_neg e, if_neg e]; grind

theorem spread_before {n : Nat} {S l : List Int} (h : SetOk n S) {k : Nat} (hk : k < S.length) : ∀ t, t ≤ k → vec (spreadF n S l t) (S[k]).toNat = 0
  | 0, _ => by
    unfold spreadF vec
    simp only [List.range_zero, List.foldl_nil, List.getElem?_replicate]
    split <;> rfl
  | t + 1, ht => by
    have htS : t < S.length := by omega
    have hS : S[t]?.getD 0 = S[t] := by rw [List.getElem?_eq_getElem htS]; rfl
    have g1 := h.get htS
    have g2 := h.get hk
    rw [spreadF_succ, hS, vec_set (by rw [spreadF_len]; omega), if_neg (fun c => by have := h.inj hk htS (by omega); omega)]
    exact spread_before h hk t (by omega)

theorem dot_spread {n : Nat} {S l : List Int} (h : SetOk n S) (r : Vec) : ∀ k, k ≤ S.length → dotS r (vec (spreadF n S l k)) n = sm (fun i => pickV S r i * vec l i) k
  | 0, _ => by
    unfold dotS
    rw [sm_congr (g := fun _ => 0) (fun c _ => ?_), sm_zero]; rfl
    unfold spreadF vec
    simp only [List.range_zero, List.foldl_nil, List.getElem?_replicate]
    split <;> simp
  | k + 1, hk => by
    have hkS : k < S.length := by omega
    have hS : S[k]?.getD 0 = S[k] := by rw [List.getElem?_eq_getElem hkS]; rfl
    have g1 := h.get hkS
    rw [spreadF_succ, hS, dotS_set (by omega) (spreadF_len n S l k), dot_spread h r k (by omega), spread_before h hkS k (Nat.le_refl _)]
    have : pickV S r k = r (S[k]).toNat := by unfold pickV; rw [List.getElem?_eq_getElem hkS]
    show _ = sm _ k + pickV S r k * vec l k
    rw [this]
    unfold vec
    simp

theorem spread_ker {M : List (List Int)} {n : Nat} {S l : List Int} (h : SetOk n S) : IsKer M n (vec (spreadF n S l S.length)) ↔ IsKer (colsF M S) S.length (vec l) := by
  unfold IsKer
  rw [colsF_len]
  have : ∀ q, dotS (rowv M q) (vec (spreadF n S l S.length)) n = dotS (rowv (colsF M S) q) (vec l) S.length := fun q => by
    rw [dot_spread h _ _ (Nat.le_refl _), colsF_rowv]; rfl
  constructor
  · intro hk q hq; rw [← this]; exact hk q hq
  · intro hk q hq; rw [this]; exact hk q hq

theorem spread_nz {n : Nat} {S l : List Int} (h : SetOk n S) (hl : l.length = S.length) {c : Nat} : vec (spreadF n S l S.length) c ≠ 0 ↔ ∃ i, ∃ hi : i < S.length, S[i] = (c : Int) ∧ vec l i ≠ 0 := by
  constructor
  · intro hc
    by_cases hm : (c : Int) ∈ S
    · obtain ⟨i, hi, e⟩ := List.mem_iff_getElem.1 hm
      refine ⟨i, hi, e, fun h0 => hc ?_⟩
      have := spread_in (l := l) h S.length (Nat.le_refl _) i hi hi
      rw [show (S[i]).toNat = c by omega] at this
      rw [this]; exact h0
    · exact absurd (spread_out h hm _ (Nat.le_refl _)) hc
  · rintro ⟨i, hi, e, hz⟩ h0
    have := spread_in (l := l) h S.length (Nat.le_refl _) i hi hi
    rw [show (S[i]).toNat = c by omega, h0] at this
    exact hz this.symm

theorem spread_pick {n : Nat} {S : List Int} (h : SetOk n S) {v : Vec} (h0 : ∀ c, c < n → (c : Int) ∉ S → v c = 0) {c : Nat} (hc : c < n) : vec (spreadF n S (S.map fun j => v j.toNat) S.length) c = v c := by
  by_cases hm : (c : Int) ∈ S
  · obtain ⟨i, hi, e⟩ := List.mem_iff_getElem.1 hm
    have := spread_in (l := S.map fun j => v j.toNat) h S.length (Nat.le_refl _) i hi hi
    rw [show (S[i]).toNat = c by omega] at this
    rw [this, List.getElem?_map, List.getElem?_eq_getElem hi]
    show v (S[i]).toNat = v c
    rw [e]; rfl
  · rw [spread_out h hm _ (Nat.le_refl _), h0 c hc hm]

theorem IsKer.congr {M : List (List Int)} {n : Nat} {u v : Vec} (h : IsKer M n u) (e : ∀ c, c < n → u c = v c) : IsKer M n v := fun q hq => by
  have := h q hq
  unfold dotS at *
  rw [sm_congr (g := fun c => rowv M q c * u c) (fun c hc => by rw [e c hc])]; exact this

theorem primV_vec (h : List Int) : ∃ x y : Int, 0 < x ∧ (y = 1 ∨ y = -1) ∧ ∀ c, x * vec (primV h) c = y * vec h c := by
  obtain ⟨g, hg, e⟩ := shortF_mul h
  unfold primV
  split
  · exact ⟨g, -1, hg, .inr rfl, fun c => by rw [negF_vec, ← e c]; grind⟩
  · exact ⟨g, 1, hg, .inl rfl, fun c => by rw [e c]; omega⟩

theorem circ1_some {M : List (List Int)} {n : Nat} (h : MaskOk M n) {S c : List Int} (hS : SetOk n S) (hc : circ1P M n S = some c) :
    ∃ l, kerSP M S = [l] ∧ l.length = S.length ∧ (∀ i, i < S.length → vec l i ≠ 0) ∧ c = primV (spreadF n S l S.length) := by
  unfold circ1P at hc
  split at hc
  · rename_i l hl
    have hm : l ∈ kerSR M S := by rw [← kerS_same h, hl]; simp
    have hlen := kerSR_len hm
    by_cases h0 : l.contains 0 = true
    · rw [if_pos h0] at hc; cases hc
    · rw [if_neg h0] at hc
      cases hc
      refine ⟨l, hl, hlen, fun i hi e => h0 ?_, rfl⟩
      rw [vec_lt (by omega)] at e
      rw [List.contains_iff_mem, ← e]
      exact List.getElem_mem _
  · cases hc

theorem circ_supp {M : List (List Int)} {n : Nat} (h : MaskOk M n) {S c : List Int} (hS : SetOk n S) (hc : circ1P M n S = some c) (j : Nat) : vec c j ≠ 0 ↔ (j : Int) ∈ S := by
  obtain ⟨l, hl, hlen, hnz, rfl⟩ := circ1_some h hS hc
  obtain ⟨x, y, hx, hy, e⟩ := primV_vec (spreadF n S l S.length)
  have h1 : vec (primV (spreadF n S l S.length)) j ≠ 0 ↔ vec (spreadF n S l S.length) j ≠ 0 := by
    have := e j
    constructor
    · intro h0 h1; rw [h1] at this; exact h0 (eq_zero_of_mul (g := x) (by omega) (by simpa using this))
    · intro h0 h1; rw [h1] at this; exact h0 (eq_zero_of_mul (g := y) (by omega) (by simpa using this.symm))
  rw [h1, spread_nz hS hlen]
  constructor
  · rintro ⟨i, hi, e, _⟩; rw [← e]; exact List.getElem_mem hi
  · intro hm
    obtain ⟨i, hi, e⟩ := List.mem_iff_getElem.1 hm
    exact ⟨i, hi, e, hnz i hi⟩

theorem kerSP_one {M : List (List Int)} {S l : List Int} (hl : kerSP M S = [l]) : ∃ f, freeF (JP (colsF M S) S.length) S.length = [f] ∧ l = shortF (rawP (RP (colsF M S) S.length) (JP (colsF M S) S.length) S.length f) := by
  unfold kerSP kernP at hl
  obtain ⟨f, hf, e⟩ : ∃ f, freeF (JP (colsF M S) S.length) S.length = [f] ∧ _ = l := by
    cases hfr : freeF (JP (colsF M S) S.length) S.length with
    | nil => rw [show freeF (pRed (colsF M S) S.length).2 S.length = [] from hfr] at hl; simp at hl
    | cons f t =>
      rw [show freeF (pRed (colsF M S) S.length).2 S.length = f :: t from hfr] at hl
      simp only [List.map_cons, List.cons.injEq] at hl
      have ht : t = [] := by simpa using hl.2
      subst ht
      exact ⟨f, rfl, hl.1⟩
  exact ⟨f, hf, e.symm⟩

theorem circ_least {M : List (List Int)} {n : Nat} (h : MaskOk M n) {S c : List Int} (hS : SetOk n S) (hc : circ1P M n S = some c) {v : Vec} (hv : IsKer M n v) (h0 : ∀ j, j < n → (j : Int) ∉ S → v j = 0) (hne : ∃ j, j < n ∧ v j ≠ 0) :
    ∀ j : Nat, (j : Int) ∈ S → v j ≠ 0 := by
  obtain ⟨l, hl, hlen, hnz, rfl⟩ := circ1_some h hS hc
  obtain ⟨f, hf, hlf⟩ := kerSP_one hl
  have hk : IsKer (colsF M S) S.length (vec (S.map fun j => v j.toNat)) := (spread_ker hS).1 (hv.congr fun c hc => (spread_pick hS h0 hc).symm)
  obtain ⟨g, hg, e⟩ := shortF_mul (rawP (RP (colsF M S) S.length) (JP (colsF M S) S.length) S.length f)
  rw [← hlf] at e
  have hfS : f < S.length := by
    have : f ∈ freeF (JP (colsF M S) S.length) S.length := by rw [hf]; simp
    simpa using (List.mem_filter.1 this).1
  -- w i * l f = l i * w f
  have key : ∀ i, i < S.length → vec (S.map fun j => v j.toNat) i * vec l f = vec l i * vec (S.map fun j => v j.toNat) f := by
    intro i hi
    have := (h.cols S).ker_one hf hk hi
    rw [← e, ← e] at this
    refine Int.eq_of_mul_eq_mul_left (show g ≠ 0 by omega) ?_
    grind
  have hw : ∀ i (hi : i < S.length), vec (S.map fun j => v j.toNat) i = v (S[i]).toNat := fun i hi => by
    unfold vec; rw [List.getElem?_map, List.getElem?_eq_getElem hi]; rfl
  have hwf : vec (S.map fun j => v j.toNat) f ≠ 0 := by
    intro hz
    obtain ⟨j, hj, hvj⟩ := hne
    have hm : (j : Int) ∈ S := by
      rcases Classical.em ((j : Int) ∈ S) with c | c
      · exact c
      · exact absurd (h0 j hj c) hvj
    obtain ⟨i, hi, ei⟩ := List.mem_iff_getElem.1 hm
    have := key i hi
    rw [hz, hw i hi, show (S[i]).toNat = j by omega, Int.mul_zero] at this
    rcases Int.mul_eq_zero.1 this with a | a
    · exact hvj a
    · exact hnz f hfS a
  intro j hm hz
  obtain ⟨i, hi, ei⟩ := List.mem_iff_getElem.1 hm
  have := key i hi
  rw [hw i hi, show (S[i]).toNat = j by omega, hz, Int.zero_mul] at this
  rcases Int.mul_eq_zero.1 this.symm with a | a
  · exact hnz i hi a
  · exact hwf a

theorem circP_mem {M : List (List Int)} {n : Nat} {c : List Int} : c ∈ circP M n ↔ ∃ k S, k < min (rankF M n + 1) n ∧ S ∈ comb n (k + 1) 0 ∧ circ1P M n S = some c := by
  unfold circP
  simp only [List.mem_flatMap, List.mem_range, List.mem_filterMap]
  constructor
  · rintro ⟨k, hk, S, hS, e⟩; exact ⟨k, S, hk, hS, e⟩
  · rintro ⟨k, S, hk, hS, e⟩; exact ⟨k, hk, S, hS, e⟩

theorem circ_facts {M : List (List Int)} {n : Nat} (h : MaskOk M n) {S c : List Int} (hS : SetOk n S) (hne : S ≠ []) (hc : circ1P M n S = some c) :
    c.length = n ∧ IsKer M n (vec c) ∧ (∀ j, (vec c j).natAbs ≤ 518400) ∧ Prim (vec c) ∧ 0 < firstNz c := by
  obtain ⟨l, hl, hlen, hnz, rfl⟩ := circ1_some h hS hc
  have hm : l ∈ kerSP M S := by rw [hl]; simp
  obtain ⟨k1, k2, k3, _⟩ := (h.cols S).kern hm
  obtain ⟨x, y, hx, hy, e⟩ := primV_vec (spreadF n S l S.length)
  have hkS := (spread_ker (M := M) hS).2 k1
  have hSp : 0 < S.length := List.length_pos_iff.2 hne
  refine ⟨?_, ?_, ?_, ?_, ?_⟩
  · unfold primV
    split
    · unfold negF; rw [List.length_map, shortF_len, spreadF_len]
    · rw [shortF_len, spreadF_len]
  · intro q hq
    have h1 := hkS q hq
    refine eq_zero_of_mul (g := x) (by omega) ?_
    unfold dotS at *
    rw [← sm_mul, sm_congr (g := fun c => y * (rowv M q c * vec (spreadF n S l S.length) c)) (fun c _ => by have := e c; grind), sm_mul, h1]; simp
  · intro j
    have h1 : (vec (primV (spreadF n S l S.length)) j).natAbs ≤ (vec (spreadF n S l S.length) j).natAbs := by
      have := congrArg Int.natAbs (e j)
      rw [Int.natAbs_mul, Int.natAbs_mul] at this
      have hy1 : y.natAbs = 1 := by omega
      rw [hy1, Nat.one_mul] at this
      rw [← this]; exact Nat.le_mul_of_pos_left _ (by omega)
    refine Nat.le_trans h1 ?_
    by_cases hm : (j : Int) ∈ S
    · obtain ⟨i, hi, ei⟩ := List.mem_iff_getElem.1 hm
      have := spread_in (l := l) hS S.length (Nat.le_refl _) i hi hi
      rw [show (S[i]).toNat = j by omega] at this
      rw [this]; exact k3 i
    · rw [spread_out hS hm _ (Nat.le_refl _)]; simp
  · have hp : Prim (vec (shortF (spreadF n S l S.length))) := by
      rcases shortF_prim (spreadF n S l S.length) with a | a
      · exact a
      · exfalso
        obtain ⟨g, hg, e2⟩ := shortF_mul (spreadF n S l S.length)
        have h1 := e2 (S[0]).toNat
        rw [a, spread_in hS S.length (Nat.le_refl _) 0 hSp hSp] at h1
        exact hnz 0 hSp (by unfold vec; rw [← h1]; simp)
    unfold primV
    split
    · exact prim_neg (z := -1) (.inr rfl) (fun c => by rw [negF_vec]; omega) hp
    · exact hp
  · -- the first number that is not 0
    have hz : ∀ m : List Int, (∃ j, vec m j ≠ 0) → firstNz m ≠ 0 := by
      intro m
      induction m with
      | nil => rintro ⟨j, hj⟩; simp [vec] at hj
      | cons a m ih =>
        rintro ⟨j, hj⟩
        unfold firstNz
        by_cases ha : a = 0
        · rw [if_pos ha]
          match j, hj with
          | 0, hj => simp [vec] at hj; exact absurd ha hj
          | j + 1, hj => exact ih ⟨j, by simpa [vec] using hj⟩
        · rw [if_neg ha]; exact ha
    have hn : ∀ m : List Int, firstNz (negF m) = - firstNz m := by
      intro m
      induction m with
      | nil => rfl
      | cons a m ih =>
        show (if -a = 0 then firstNz (negF m) else -a) = -(if a = 0 then firstNz m else a)
        by_cases ha : a = 0
        · rw [if_pos ha, if_pos (by omega), ih]
        · rw [if_neg ha, if_neg (by omega)]
    have hs : firstNz (shortF (spreadF n S l S.length)) ≠ 0 := by
      refine hz _ ⟨(S[0]).toNat, fun h0 => ?_⟩
      obtain ⟨g, hg, e2⟩ := shortF_mul (spreadF n S l S.length)
      have h1 := e2 (S[0]).toNat
      rw [h0, spread_in hS S.length (Nat.le_refl _) 0 hSp hSp] at h1
      exact hnz 0 hSp (by unfold vec; rw [← h1]; simp)
    unfold primV
    split
    · rw [hn]; omega
    · omega

theorem nodup_sub {α : Type} [BEq α] [LawfulBEq α] : ∀ {l m : List α}, l.Nodup → (∀ x ∈ l, x ∈ m) → l.length ≤ m.length
  | [], _, _, _ => Nat.zero_le _
  | x :: l, m, hn, h => by
    rw [List.nodup_cons] at hn
    have hx := h x (by simp)
    have := nodup_sub (l := l) (m := m.erase x) hn.2 (fun y hy => (List.mem_erase_of_ne (fun e => hn.1 (by rw [← e]; exact hy))).2 (h y (by simp [hy])))
    rw [List.length_erase_of_mem hx] at this
    have := List.length_pos_of_mem hx
    simp only [List.length_cons]; omega

def suppL (n : Nat) (v : Vec) : List Int := ((List.range n).filter (fun c => decide (v c ≠ 0))).map (fun c : Nat => (c : Int))
theorem mem_suppL {n : Nat} {v : Vec} {j : Nat} : (j : Int) ∈ suppL n v ↔ j < n ∧ v j ≠ 0 := by
  unfold suppL
  simp only [List.mem_map, List.mem_filter, List.mem_range]
  constructor
  · rintro ⟨c, ⟨h1, h2⟩, e⟩
    have : c = j := by omega
    subst this; exact ⟨h1, by simpa using h2⟩
  · rintro ⟨h1, h2⟩; exact ⟨j, ⟨h1, by simpa using h2⟩, rfl⟩
theorem suppL_ok (n : Nat) (v : Vec) : SetOk n (suppL n v) := by
  constructor
  · unfold suppL
    rw [List.pairwise_map]
    exact (List.pairwise_lt_range.filter _).imp (fun h => by omega)
  · intro y hy
    unfold suppL at hy
    obtain ⟨c, hc, rfl⟩ := List.mem_map.1 hy
    have := List.mem_range.1 (List.mem_filter.1 hc).1
    omega

theorem circ_within {M : List (List Int)} {n : Nat} (h : MaskOk M n) : ∀ (s : Nat) (v : Vec), (suppL n v).length = s → IsKer M n v → (∃ j, j < n ∧ v j ≠ 0) → ∃ S c, SetOk n S ∧ S.length ≤ s ∧ S ≠ [] ∧ (∀ y ∈ S, y ∈ suppL n v) ∧ circ1P M n S = some c := by
  intro s
  induction s using Nat.strongRecOn with
  | ind s ih =>
    intro v hs hv hne
    have hS := suppL_ok n v
    obtain ⟨S, hSe⟩ : ∃ S, S = suppL n v := ⟨_, rfl⟩
    rw [← hSe] at hS hs
    have h0 : ∀ j, j < n → (j : Int) ∉ S → v j = 0 := fun j hj hm => by
      rcases Classical.em (v j = 0) with c | c
      · exact c
      · exact absurd (by rw [hSe]; exact mem_suppL.2 ⟨hj, c⟩) hm
    have hne2 : S ≠ [] := by
      obtain ⟨j, hj, hvj⟩ := hne
      intro e
      have : (j : Int) ∈ S := by rw [hSe]; exact mem_suppL.2 ⟨hj, hvj⟩
      rw [e] at this; simp at this
    have hk : IsKer (colsF M S) S.length (vec (S.map fun j => v j.toNat)) := (spread_ker hS).1 (hv.congr fun c hc => (spread_pick hS h0 hc).symm)
    have hc := h.cols S
    have hw : ∀ i (hi : i < S.length), vec (S.map fun j => v j.toNat) i ≠ 0 := fun i hi => by
      have : vec (S.map fun j => v j.toNat) i = v (S[i]).toNat := by unfold vec; rw [List.getElem?_map, List.getElem?_eq_getElem hi]; rfl
      rw [this]
      have hm : ((S[i]).toNat : Int) ∈ suppL n v := by
        have g := hS.get hi
        rw [show ((S[i]).toNat : Int) = S[i] by omega, ← hSe]; exact List.getElem_mem hi
      exact (mem_suppL.1 hm).2
    -- the free columns
    have hfree : ∃ f, f < S.length ∧ f ∉ JP (colsF M S) S.length := by
      refine Classical.byContradiction fun hno => ?_
      have hall : ∀ f, f < S.length → f ∈ JP (colsF M S) S.length := fun f hf => Classical.byContradiction fun hn => hno ⟨f, hf, hn⟩
      have hSp : 0 < S.length := List.length_pos_iff.2 hne2
      obtain ⟨i, hi, e⟩ := mem_jf (hall 0 hSp)
      have hr := hc.ker_iff.1 hk i hi
      rw [hc.dot_row _ hi, sm_congr (g := fun _ => 0) (fun c hcl => if_pos (hall c hcl)), sm_zero, e] at hr
      have hp : 0 < rowv (RP (colsF M S) S.length) i (jf (JP (colsF M S) S.length) i) := ((hc.inv S.length).pp i hi).2
      rw [e] at hp
      rcases Int.mul_eq_zero.1 (show rowv (RP (colsF M S) S.length) i 0 * vec (S.map fun j => v j.toNat) 0 = 0 by omega) with a | a
      · omega
      · exact hw 0 hSp a
    obtain ⟨f, hf, hfJ⟩ := hfree
    have hfm : f ∈ freeF (JP (colsF M S) S.length) S.length := List.mem_filter.2 ⟨by simpa using hf, by simpa using hfJ⟩
    rcases Classical.em (∃ f2, f2 ∈ freeF (JP (colsF M S) S.length) S.length ∧ f2 ≠ f) with ⟨f2, hf2, hne3⟩ | hone
    · -- a second free column: a vector with a smaller support
      obtain ⟨g1, g2⟩ := List.mem_filter.1 hf2
      have hf2S : f2 < S.length := by simpa using g1
      have hf2J : f2 ∉ JP (colsF M S) S.length := by simpa using g2
      obtain ⟨t, ht, _, r1, r2, _⟩ := hc.raw hf hfJ
      have hrk := hc.raw_ker hf hfJ
      have hlen : (rawP (RP (colsF M S) S.length) (JP (colsF M S) S.length) S.length f).length = S.length := by unfold rawP; rw [fillF_len]; simp
      obtain ⟨u, hu⟩ : ∃ u, u = vec (spreadF n S (rawP (RP (colsF M S) S.length) (JP (colsF M S) S.length) S.length f) S.length) := ⟨_, rfl⟩
      have huk : IsKer M n u := by rw [hu]; exact (spread_ker hS).2 hrk
      have hsub : ∀ y ∈ suppL n u, y ∈ S ∧ y ≠ S[f2] := by
        intro y hy
        have gy := (suppL_ok n u).2 y hy
        have hy' : ((y.toNat : Nat) : Int) ∈ suppL n u := by rw [show ((y.toNat : Nat) : Int) = y by omega]; exact hy
        obtain ⟨_, hz⟩ := mem_suppL.1 hy'
        rw [hu] at hz
        obtain ⟨i, hi, ei, hzi⟩ := (spread_nz hS hlen).1 hz
        have e1 : S[i] = y := by omega
        refine ⟨by rw [← e1]; exact List.getElem_mem hi, fun e2 => ?_⟩
        have := hS.inj hi hf2S (by rw [e1, e2])
        subst this
        exact hzi (r2 i hf2J hne3)
      have hlt : (suppL n u).length < s := by
        have hnd : (suppL n u).Nodup := (suppL_ok n u).1.imp (fun h => by omega)
        have h1 : (S[f2] :: suppL n u).length ≤ S.length := by
          refine nodup_sub ?_ ?_
          · exact List.nodup_cons.2 ⟨fun hm => (hsub _ hm).2 rfl, hnd⟩
          · intro y hy
            rcases List.mem_cons.1 hy with rfl | hy
            · exact List.getElem_mem hf2S
            · exact (hsub y hy).1
        simp only [List.length_cons] at h1
        omega
      have hune : ∃ j, j < n ∧ u j ≠ 0 := by
        have g := hS.get hf
        refine ⟨(S[f]).toNat, by omega, ?_⟩
        rw [hu, spread_nz hS hlen]
        exact ⟨f, hf, by omega, by rw [r1]; omega⟩
      obtain ⟨T, c, t1, t2, t3, t4, t5⟩ := ih _ hlt u rfl huk hune
      exact ⟨T, c, t1, by omega, t3, fun y hy => by rw [← hSe]; exact (hsub y (t4 y hy)).1, t5⟩
    · -- one free column: a circuit
      have hone' : freeF (JP (colsF M S) S.length) S.length = [f] := by
        have hall : ∀ x ∈ freeF (JP (colsF M S) S.length) S.length, x = f := fun x hx => Classical.byContradiction fun hn => hone ⟨x, hx, hn⟩
        have hnd : (freeF (JP (colsF M S) S.length) S.length).Nodup := List.Pairwise.filter _ List.nodup_range
        match hL : freeF (JP (colsF M S) S.length) S.length, hall, hnd with
        | [], _, _ => rw [hL] at hfm; simp at hfm
        | [x], hall, _ => rw [hall x (by simp)]
        | x :: y :: t, hall, hnd =>
          have h1 := hall x (by simp)
          have h2 := hall y (by simp)
          rw [h1, h2] at hnd
          simp at hnd
      have hl : kerSP M S = [shortF (rawP (RP (colsF M S) S.length) (JP (colsF M S) S.length) S.length f)] := by
        show (freeF (JP (colsF M S) S.length) S.length).map _ = _
        rw [hone']; rfl
      refine ⟨S, primV (spreadF n S (shortF (rawP (RP (colsF M S) S.length) (JP (colsF M S) S.length) S.length f)) S.length), hS, by omega, hne2, fun y hy => by rw [← hSe]; exact hy, ?_⟩
      unfold circ1P
      rw [hl]
      simp only []
      rw [if_neg]
      intro h0'
      have hm : (0 : Int) ∈ shortF (rawP (RP (colsF M S) S.length) (JP (colsF M S) S.length) S.length f) := by simpa using h0'
      obtain ⟨i, hi, ei⟩ := List.mem_iff_getElem.1 hm
      have hiS : i < S.length := by
        rw [shortF_len] at hi
        unfold rawP at hi
        rw [fillF_len] at hi
        simpa using hi
      have h1 := hc.ker_one hone' hk hiS
      obtain ⟨g, hg, e⟩ := shortF_mul (rawP (RP (colsF M S) S.length) (JP (colsF M S) S.length) S.length f)
      have h2 := e i
      rw [vec_lt hi, ei, Int.mul_zero] at h2
      rw [← h2, Int.zero_mul] at h1
      obtain ⟨t, ht, _, r1, _⟩ := hc.raw hf hfJ
      rw [r1] at h1
      rcases Int.mul_eq_zero.1 h1 with a | a
      · exact hw i hiS a
      · omega
end

section
set_option linter.unusedVariables false
set_option linter.unusedSimpArgs false

def unitF (N i : Nat) : List Int := (List.replicate N 0).set i 1
def extF (M : List (List Int)) : List (List Int) := M.mapIdx (fun i r => r ++ unitF M.length i)
theorem extF_len (M : List (List Int)) : (extF M).length = M.length := by simp [extF]
theorem extF_get {M : List (List Int)} {i : Nat} (h : i < M.length) : (extF M)[i]? = some (M[i] ++ unitF M.length i) := by
  unfold extF; rw [List.getElem?_mapIdx, List.getElem?_eq_getElem h]; rfl
theorem extF_mem {M : List (List Int)} {r : List Int} (h : r ∈ extF M) : ∃ i, ∃ hi : i < M.length, r = M[i] ++ unitF M.length i := by
  obtain ⟨i, hi, rfl⟩ := List.mem_iff_getElem.1 h
  rw [extF_len] at hi
  have := extF_get hi
  rw [List.getElem?_eq_getElem (by rw [extF_len]; exact hi)] at this
  exact ⟨i, hi, Option.some.inj this⟩
theorem unitF_len (N i : Nat) : (unitF N i).length = N := by simp [unitF]
theorem unitF_vec {N i : Nat} (hi : i < N) (c : Nat) : vec (unitF N i) c = if c = i then 1 else 0 := by
  unfold unitF
  rw [vec_set (by simpa using hi)]
  split
  · rfl
  · unfold vec; rw [List.getElem?_replicate]; split <;> rfl
theorem vec_app_lt {a b : List Int} {c : Nat} (h : c < a.length) : vec (a ++ b) c = vec a c := by unfold vec; rw [List.getElem?_append_left h]
theorem vec_app_ge {a b : List Int} {c : Nat} (h : a.length ≤ c) : vec (a ++ b) c = vec b (c - a.length) := by unfold vec; rw [List.getElem?_append_right h]

structure ExtOk (M : List (List Int)) (n : Nat) : Prop where
  wid : ∀ r ∈ extF M, r.length = n + M.length
  one : ∀ r ∈ extF M, ∀ c, -1 ≤ vec r c ∧ vec r c ≤ 1
theorem MaskOk.ext {M : List (List Int)} {n : Nat} (h : MaskOk M n) : ExtOk M n := by
  constructor
  · intro r hr
    obtain ⟨i, hi, rfl⟩ := extF_mem hr
    rw [List.length_append, unitF_len, h.wid _ (List.getElem_mem hi)]
  · intro r hr c
    obtain ⟨i, hi, rfl⟩ := extF_mem hr
    rcases Nat.lt_or_ge c (M[i]).length with hc | hc
    · rw [vec_app_lt hc]; exact h.one _ (List.getElem_mem hi) c
    · rw [vec_app_ge hc, unitF_vec hi]; split <;> decide

abbrev RE (M : List (List Int)) (n : Nat) : List (List Int) := (pRed (extF M) n).1
def truncV (n : Nat) (v : Vec) : Vec := fun c => if c < n then v c else 0
theorem truncV_sp {B B' : Vec → Prop} {n : Nat} (hB : ∀ v, B v → Sp B' (truncV n v)) {v : Vec} (h : Sp B v) : Sp B' (truncV n v) :=
  Sp.map (truncV n) (by funext c; unfold truncV; split <;> rfl) (fun u v => by funext c; unfold truncV; split <;> simp) (fun k u => by funext c; unfold truncV; split <;> simp) hB h
theorem withY_row {M : List (List Int)} {n : Nat} (h : MaskOk M n) {y : List Int} (hy : y.length = M.length) {q : Nat} (hq : q < M.length) (c : Nat) :
    rowv (withY M y) q c = if c < n then rowv M q c else if c = n then vec y q else 0 := by
  have hw := h.wid _ (List.getElem_mem hq)
  have e : (withY M y)[q]? = some (M[q] ++ [y[q]]) := by unfold withY; rw [List.getElem?_zipWith, List.getElem?_eq_getElem hq, List.getElem?_eq_getElem (by omega)]
  unfold rowv
  rw [e, List.getElem?_eq_getElem hq]
  simp only [Option.getD_some]
  by_cases hc : c < n
  · rw [if_pos hc, vec_app_lt (by rw [hw]; exact hc)]
  · rw [if_neg hc, vec_app_ge (by rw [hw]; omega), hw]
    by_cases e2 : c = n
    · rw [if_pos e2, e2, Nat.sub_self, vec_lt (l := [y[q]]) (by simp), vec_lt (l := y) (by omega)]; rfl
    · rw [if_neg e2, vec_ge (by simp; omega)]

end
end Go.Proofs.YtlffndehhhpgjaaGreat

namespace Go.Proofs.YtlffndehhhpgjaaGreat
set_option linter.unusedVariables false
set_option linter.unusedSimpArgs false

theorem MaskOk.times {M : List (List Int)} {n : Nat} (h : MaskOk M n) (f : Nat) {t : Nat} (ht : t ≤ (JP M n).length) :
    0 < timesP (RP M n) f ((JP M n).take t) 0 1 ∧ timesP (RP M n) f ((JP M n).take t) 0 1 ≤ 720 := by
  obtain ⟨d, d1, d2, hk⟩ := pRed_ok (n := n) h.wid h.le6 (fun r hr c _ => h.one r hr c)
  obtain ⟨a, b, _, _⟩ := timesP_facts (R := RP M n) (f := f) (d := d) ((JP M n).take t) 0 1 (by decide) (Int.one_dvd _) (fun i hi => by
    rw [List.length_take] at hi
    have h1 : i < (JP M n).length := by omega
    have := hk.piv i h1
    rw [Nat.zero_add]
    have e : jf ((JP M n).take t) i = jf (JP M n) i := by unfold jf; rw [List.getElem?_take_of_lt (by omega)]
    rw [e]; exact this)
  have h9 := Int.le_of_dvd (by omega) b
  exact ⟨a, by omega⟩
theorem MaskOk.bnd {M : List (List Int)} {n : Nat} (h : MaskOk M n) {t : Nat} (ht : t ≤ n) : ∀ r ∈ (pRed M t).1, r.length = n ∧ ∀ x ∈ r, -(720 : Int) ≤ x ∧ x ≤ 720 := by
  have := pRed_le (n := n) (Y := 1) h.wid h.le6 (fun r hr c _ => h.one r hr c) (fun r hr => mem_vec (P := fun x => -((1 : Nat) : Int) ≤ x ∧ x ≤ ((1 : Nat) : Int)) fun c => by have := h.one r hr c; omega) ht
  intro r hr
  obtain ⟨h1, h2⟩ := this r hr
  exact ⟨h1, fun x hx => by have := h2 x hx; omega⟩
end Go.Proofs.YtlffndehhhpgjaaGreat

namespace Go.Proofs.YtlffndehhhpgjaaGreat
open Go.RowKit
set_option linter.unusedVariables false
set_option linter.unusedSimpArgs false

def intsJ (J : List Nat) : List Int := J.map (fun j : Nat => (j : Int))
theorem intsJ_len (J : List Nat) : (intsJ J).length = J.length := by simp [intsJ]
theorem intsJ_vals (J : List Nat) : J.map (fun j : Nat => Value.int .i64 j) = (intsJ J).map (Value.int .i64) := by unfold intsJ; rw [List.map_map]; rfl

theorem ints_of_own {W : World} {base : Nat} {v : Value} {n : Nat} {l : List Int} (h : W.ownsRow base 3 1 v n (l.map (Value.int .i64))) (hn : l.length = n) : ∃ a c, v = .slice a n c ∧ IntsAt W a l ∧ n ≤ maxLen := by
  subst hn
  rcases h.2 with ⟨rfl, h0⟩ | ⟨g, cap, cur, rfl, hbg, hgg, hnc, hcm, hsz, htk⟩
  · exact ⟨none, 0, by rw [h0], fun j hj => by omega, by rw [h0]; decide⟩
  · refine ⟨_, cap, rfl, ?_, by omega⟩
    have := (ElemI.own (S := fun _ => True) (base := base) ⟨h.1, .inr ⟨g, cap, cur, rfl, hbg, hgg, hnc, hcm, hsz, htk⟩⟩ (show l.length ≤ maxLen by omega) (fun _ _ => trivial)).ints
    exact this.2.2

end Go.Proofs.YtlffndehhhpgjaaGreat

namespace Go.Proofs.YtlffndehhhpgjaaGreat
open Go.RowKit
set_option linter.unusedVariables false
set_option linter.unusedSimpArgs false

theorem region_cut {P : Program} {c : Code} {Q : Exit → Act → World → Prop} {a : Act} {w : World} (R : Act → Act → World → Prop) (h1 : c.wp P (fun e a' w' => e = .normal ∧ R a a' w') a w) (h2 : ∀ a' w', R a a' w' → Q .normal a' w') : c.wp P Q a w :=
  Code.wp_mono (fun e a' w' ⟨he, hr⟩ => by subst he; exact h2 a' w' hr) h1

theorem okM_ok {M : Mask} (h : okM M = true) : MaskOk M (colsM M) ∧ 1 ≤ M.length ∧ M.length ≤ 6 ∧ 1 ≤ colsM M ∧ colsM M ≤ 10 := by
  unfold okM inB at h
  simp only [Bool.and_eq_true, decide_eq_true_eq, List.all_eq_true] at h
  obtain ⟨⟨h1, h2⟩, h3⟩ := h
  have hr : ∀ r ∈ M, r.length = colsM M ∧ (1 ≤ r.length ∧ r.length ≤ 10) ∧ ∀ x ∈ r, -1 ≤ x ∧ x ≤ 1 := fun r hr => by
    have h4 := h3 r hr
    unfold okMRow inB at h4
    simp only [Bool.and_eq_true, decide_eq_true_eq, List.all_eq_true] at h4
    obtain ⟨h5, ⟨h6, h7⟩, h8⟩ := h4
    exact ⟨h5, ⟨by omega, by omega⟩, h8⟩
  have h0 : M.length ≠ 0 := by omega
  have hm0 : M[0]'(by omega) ∈ M := List.getElem_mem _
  obtain ⟨k1, k2, _⟩ := hr _ hm0
  refine ⟨⟨fun r hr' => (hr r hr').1, by omega, fun r hr' c => vec_mem (P := fun x => -1 ≤ x ∧ x ≤ 1) (by decide) (hr r hr').2.2 c⟩, by omega, by omega, by omega, by omega⟩

theorem rows_head {w : World} {a : Option Addr} {M : Mask} (H : RowsAt w a M) (h0 : 0 < M.length) :
    ∃ b off ra rc, a = some ⟨b, off, none⟩ ∧ b < w.heap.size ∧ w.cell? ⟨b, off, none⟩ = some (.slice ra (colsM M) rc) := by
  obtain ⟨b, off, ra, rn, rc, rfl, hb, hc, hn, _, _⟩ := H 0 h0
  refine ⟨b, off, ra, rc, rfl, hb, ?_⟩
  have e : colsM M = rn := by unfold colsM; rw [List.getElem?_eq_getElem h0]; exact hn
  rw [e]; simpa using hc

end Go.Proofs.YtlffndehhhpgjaaGreat

namespace Go.Proofs.YtlffndehhhpgjaaGreat
set_option linter.unusedVariables false
set_option linter.unusedSimpArgs false

theorem upF_get : ∀ (m : Nat) (a : Int) (j : Nat), j < m → (upF a m)[j]? = some (a + j)
  | 0, _, _, h => by omega
  | m + 1, a, 0, _ => by simp [upF]
  | m + 1, a, j + 1, h => by
    show (upF (a + 1) m)[j]? = _
    rw [upF_get m (a + 1) j (by omega)]; congr 1; omega
theorem upF_snoc : ∀ (m : Nat) (a : Int), upF a (m + 1) = upF a m ++ [a + m]
  | 0, a => by simp [upF]
  | m + 1, a => by
    show a :: upF (a + 1) (m + 1) = a :: (upF (a + 1) m ++ _)
    rw [upF_snoc m (a + 1)]
    congr 3; omega
theorem upF_range (m : Nat) : ∀ a : Nat, upF (a : Int) m = (List.range' a m).map (fun j : Nat => (j : Int)) := by
  induction m with
  | zero => intro a; rfl
  | succ m ih =>
    intro a
    show (a : Int) :: upF ((a : Int) + 1) m = _
    have := ih (a + 1)
    rw [show ((a : Int) + 1) = ((a + 1 : Nat) : Int) by omega, this]
    simp [List.range'_succ]

def TailAt (n k : Nat) (x : List Int) (m : Nat) : Prop := ∀ j, m ≤ j → j < k → x[j]? = some ((n : Int) - k + j)

theorem tail_le {n k m : Nat} {x : List Int} (hl : x.length = k) (hp : x.Pairwise (· < ·)) (hb : ∀ y ∈ x, y < (n : Int)) (hm : m < k) (ht : TailAt n k x (m + 1)) : x[m]?.getD 0 ≤ (n : Int) - k + m := by
  have hml : m < x.length := by omega
  rw [List.getElem?_eq_getElem hml]
  by_cases e : m + 1 = k
  · have := hb _ (List.getElem_mem hml); simp; omega
  · have h1 := ht (m + 1) (Nat.le_refl _) (by omega)
    have hml1 : m + 1 < x.length := by omega
    rw [List.getElem?_eq_getElem hml1] at h1
    have h2 := List.pairwise_iff_getElem.1 hp m (m + 1) hml hml1 (by omega)
    have h3 := Option.some.inj h1
    simp; omega
theorem tail_step {n k m : Nat} {x : List Int} (hl : x.length = k) (hm : m < k) (ht : TailAt n k x (m + 1)) (he : x[m]?.getD 0 = (n : Int) - k + m) : TailAt n k x m := by
  intro j h1 h2
  by_cases e : j = m
  · subst e
    rw [List.getElem?_eq_getElem (by omega)] at he ⊢
    rw [← he]; rfl
  · exact ht j (by omega) h2
theorem tail_drop {n k m : Nat} {x : List Int} (hl : x.length = k) (hk : k ≤ n) (hm : m ≤ k) (ht : TailAt n k x m) : x.drop m = upF ((n : Int) - (k - m : Nat)) (k - m) := by
  apply List.ext_getElem?
  intro j
  rw [List.getElem?_drop]
  rcases Nat.lt_or_ge j (k - m) with h | h
  · rw [ht (m + j) (by omega) (by omega), upF_get _ _ _ h]; congr 1; omega
  · rw [List.getElem?_eq_none (by omega), List.getElem?_eq_none (by rw [upF_len]; omega)]

theorem next_none {n k : Nat} {x : List Int} (hl : x.length = k) (hk : k ≤ n) (ht : TailAt n k x 0) : nextS n x = none := by
  have := tail_drop hl hk (Nat.zero_le _) ht
  rw [List.drop_zero, Nat.sub_zero] at this
  rw [this]
  exact nextS_up k _ (by omega)
def fillS (x : List Int) (m j : Nat) : List Int := x.take m ++ upF (x[m]?.getD 0 + 1) (j - m) ++ x.drop j
theorem fillS_len {x : List Int} {m j : Nat} (h1 : m ≤ j) (h2 : j ≤ x.length) : (fillS x m j).length = x.length := by
  unfold fillS; simp [upF_len]; omega
theorem fillS_get {x : List Int} {m j : Nat} (h1 : m < j) (h2 : j ≤ x.length) : (fillS x m j)[j - 1]?.getD 0 = x[m]?.getD 0 + (j - m : Nat) := by
  unfold fillS
  rw [List.getElem?_append_left (by simp [upF_len]; omega), List.getElem?_append_right (by simp; omega)]
  simp only [List.length_take]
  rw [show j - 1 - min m x.length = j - m - 1 by omega, upF_get _ _ _ (by omega)]
  simp; omega
theorem fillS_set {x : List Int} {m j : Nat} (h1 : m ≤ j) (h2 : j < x.length) : (fillS x m j).set j (x[m]?.getD 0 + (j + 1 - m : Nat)) = fillS x m (j + 1) := by
  unfold fillS
  have hl : (x.take m ++ upF (x[m]?.getD 0 + 1) (j - m)).length = j := by simp [upF_len]; omega
  rw [List.set_append_right _ _ (by omega), hl, Nat.sub_self, List.drop_eq_getElem_cons h2, List.set_cons_zero, show j + 1 - m = (j - m) + 1 by omega, upF_snoc]
  simp
  omega
theorem fillS_start {x : List Int} {m : Nat} (hm : m < x.length) : x.set m (x[m]?.getD 0 + 1) = fillS x m (m + 1) := by
  have := fillS_set (x := x) (m := m) (j := m) (Nat.le_refl _) hm
  rw [show m + 1 - m = 1 by omega] at this
  unfold fillS at this ⊢
  rw [← this]
  simp [upF]
theorem fillS_done {n k m : Nat} {x : List Int} (hl : x.length = k) (hk : k ≤ n) (hm : m < k) (ht : TailAt n k x (m + 1)) (hlt : x[m]?.getD 0 < (n : Int) - k + m) : nextS n x = some (fillS x m k) := by
  have h1 := tail_drop hl hk (by omega) ht
  have hml : m < x.length := by omega
  have hx : x = x.take m ++ x[m] :: upF ((n : Int) - (k - (m + 1) : Nat)) (k - (m + 1)) := by
    rw [← h1, ← List.drop_eq_getElem_cons hml, List.take_append_drop]
  have hd : x[m]?.getD 0 = x[m] := by rw [List.getElem?_eq_getElem hml]; rfl
  rw [hd] at hlt
  have h2 := nextS_at (n := (n : Int)) (m := k - (m + 1)) (d := x[m]) (by omega) (x.take m)
  rw [← hx] at h2
  rw [h2]
  unfold fillS
  rw [hd, List.drop_eq_nil_of_le (by omega), List.append_nil, show k - (m + 1) + 1 = k - m by omega]

theorem take_snoc_at {α : Type} {l : List α} {i : Nat} {x : α} (h : l[i]? = some x) : l.take i ++ [x] = l.take (i + 1) := by
  obtain ⟨hi, rfl⟩ := List.getElem?_eq_some_iff.1 h
  rw [List.take_succ_eq_append_getElem hi]
theorem take_all_at {α : Type} {l : List α} {i : Nat} {x : α} (h : l[i]? = some x) (hn : l[i + 1]? = none) : l.take (i + 1) = l := by
  exact List.take_of_length_le (List.getElem?_eq_none_iff.1 hn)
end Go.Proofs.YtlffndehhhpgjaaGreat

namespace Go.Proofs.YtlffndehhhpgjaaGreat
open Go.RowKit
set_option linter.unusedVariables false
set_option linter.unusedSimpArgs false
attribute [local go_sem] Oper.semAt_some

theorem allI_upF (n : Nat) : allI n = upF 0 n := by
  have := upF_range n 0
  rw [show ((0 : Nat) : Int) = 0 from rfl] at this
  rw [this]
  unfold allI
  rw [List.range_eq_range']

set_option maxRecDepth 100000 in
set_option maxHeartbeats 4000000 in
theorem iter_sets (w0 : World) (n k kb nb : Nat) (hn : n ≤ 1000) (hk : k ≤ 1000) (hk1 : 1 ≤ k) (hkb : kb < w0.heap.size) (hnb : nb < w0.heap.size) (hf0 : w0.cell? ⟨kb, 0, none⟩ = some (.int .i64 k)) (hf1 : w0.cell? ⟨nb, 0, none⟩ = some (.int .i64 n)) :
    IterInts Tryz.prog 3 222 #[.pointer (some ⟨kb, 0, none⟩), .pointer (some ⟨nb, 0, none⟩)] (comb n k 0) (fun q => q = kb ∨ q = nb) w0 := by
  obtain ⟨xs, hxs⟩ : ∃ xs, xs = comb n k 0 := ⟨_, rfl⟩
  have hfacts : ∀ x ∈ xs, x.length = k ∧ x.Pairwise (· < ·) ∧ (∀ y ∈ x, y < (n : Int)) ∧ ∀ j : Nat, (0 : Int) ≤ x[j]?.getD 0 := fun x hx => by
    rw [hxs] at hx
    obtain ⟨h1, h2⟩ := comb_asc n k 0 x hx
    exact ⟨comb_len n k 0 x hx, h1, fun y hy => by have := (h2 y hy).2; omega, fun j => by
      rcases Nat.lt_or_ge j x.length with h | h
      · rw [List.getElem?_eq_getElem h]; have := (h2 _ (List.getElem_mem h)).1; simp; omega
      · rw [List.getElem?_eq_none h]; simp⟩
  have hchn : Chn n none xs := by rw [hxs]; have := comb_chn n k 0; rwa [Int.zero_add] at this
  have hhead : k ≤ n → xs[0]? = some (upF 0 k) := fun hkn => by
    rw [hxs]
    obtain ⟨t, ht⟩ := comb_head n k 0 hkn
    rw [ht]; rfl
  have hnil : ¬ k ≤ n → xs = [] := fun h => by rw [hxs]; exact comb_none n k 0 (by omega)
  rw [← hxs]
  have HF := hid hfacts
  have HC := hid hchn
  have HH := hid hhead
  have HNL := hid hnil
  clear hfacts hchn hhead hnil hxs
  intro l J Jx W hb hJ hY h0
  have hg0 : W.cell? ⟨kb, 0, none⟩ = some (.int .i64 k) := (hb.cell (p := ⟨kb, 0, none⟩) hkb).trans hf0
  have hg1 : W.cell? ⟨nb, 0, none⟩ = some (.int .i64 n) := (hb.cell (p := ⟨nb, 0, none⟩) hnb).trans hf1
  have hkW : kb < W.heap.size := Nat.lt_of_lt_of_le hkb hb.size
  have hnW : nb < W.heap.size := Nat.lt_of_lt_of_le hnb hb.size
  have HJ := hid hJ
  have HY := hid hY
  have H0 := hid h0
  have HALL := hid (all_c W k hk)
  clear hJ hY h0 hf0 hf1 hb
  refine callsIn_of_wp Tryz.func222 rfl trivial ?_ rfl
  simp only [Tryz.ntmps222, List.size_toArray, List.length_cons, List.length_nil, Nat.reduceAdd, Nat.reduceSub, Array.replicate_succ, Array.replicate_zero, List.push_toArray, List.append_toArray, List.nil_append, List.cons_append]
  gi_wp2_with (refine ⟨trivial, rfl, ?_⟩; gi_at_call 194; refine (callsIn_wide.2 HALL.out).mono ?_; rintro e w1 ⟨v, rfl, ho1, hb1⟩; refine Stop.of ?_)
  refine Stop.go ?_
  obtain ⟨it, cap, rfl, hit, hr1⟩ := spRow_own ho1 (allI_len k) hk1
  rw [allI_upF] at hr1
  have hJ1 : J it [] w1 := HJ.out it _ _ _ hit (H0.out it hit) (Keep.of_below hb1)
  have hkb1 := hb1.block kb hkW
  have hnb1 := hb1.block nb hnW
  have hs1 := hb1.size
  clear ho1 HALL
  by_cases hkn : k ≤ n
  · have hhead := HH.out hkn
    have hit1 := hr1.lt
    have HIT := hid hit
    clear hit
    gi_wp2
    gi_loopg [] xs.length (fun (g : Nat) wr => ∃ (i : Nat) (x : List Int), g = xs.length - i ∧ xs[i]? = some x ∧ J it (xs.take i) wr ∧ SpRow wr it x ∧ wr.heap[kb]? = W.heap[kb]? ∧ wr.heap[nb]? = W.heap[nb]? ∧ W.heap.size ≤ wr.heap.size)
    case atStart => exact ⟨0, upF 0 k, by omega, hhead, by rw [List.take_zero]; exact hJ1, hr1, hkb1, hnb1, hs1⟩
    case round =>
      obtain ⟨i, x, rfl, hx, hJk, hrk, hfk, hfn, hsz⟩ := hrel
      have hxm : x ∈ xs := List.mem_of_getElem? hx
      obtain ⟨hxl, hxp, hxb, hxn⟩ := HF.out x hxm
      have hil : i < xs.length := (List.getElem?_eq_some_iff.1 hx).1
      obtain ⟨sp, hrow⟩ := hrk
      have hyk := HY.out it (xs.take i) x cap sp wr (by rw [take_snoc_at hx]; exact List.take_prefix _ _) HIT.out (Array.getElem?_eq_some_iff.1 hrow).1 hJk hrow
      rw [hxl, take_snoc_at hx] at hyk
      have hw0 : wr.cell? ⟨kb, 0, none⟩ = some (.int .i64 k) := (World.cell?_of_block (a := ⟨kb, 0, none⟩) hfk).trans hg0
      have hw1 : wr.cell? ⟨nb, 0, none⟩ = some (.int .i64 n) := (World.cell?_of_block (a := ⟨nb, 0, none⟩) hfn).trans hg1
      have hkn' : (k : Int) ≤ (n : Int) := by omega
      have HRK := hid (show SpRow wr it x from ⟨sp, hrow⟩)
      have HFK := hid hfk
      have HFN := hid hfn
      have HX := hid hx
      have HXL := hid hxl
      have HXP := hid hxp
      have HXB := hid hxb
      have HXN := hid hxn
      clear hrow hJk hfk hfn hx hxm hxl hxp hxb hxn hhead hJ1 hr1 hkb1 hnb1
      obtain ⟨fn, tmps, assign, body, hy, hR⟩ := hyk
      gi_wp2
      refine ⟨rfl, hR.mono ?_⟩
      clear hR hy
      rintro e W3 (⟨rfl, hJ3, hs3, hk3⟩ | ⟨rfl, hJx⟩)
      · have hr3 : SpRow W3 it x := HRK.out.keep (hk3 it (Or.inr rfl))
        have hfk3 : W3.heap[kb]? = W.heap[kb]? := (hk3 kb (Or.inl (Or.inl rfl))).trans HFK.out
        have hfn3 : W3.heap[nb]? = W.heap[nb]? := (hk3 nb (Or.inl (Or.inr rfl))).trans HFN.out
        have hg30 : W3.cell? ⟨kb, 0, none⟩ = some (.int .i64 k) := (World.cell?_of_block (a := ⟨kb, 0, none⟩) hfk3).trans hg0
        have hg31 : W3.cell? ⟨nb, 0, none⟩ = some (.int .i64 n) := (World.cell?_of_block (a := ⟨nb, 0, none⟩) hfn3).trans hg1
        have HR3 := hid hr3
        have HK3 := hid hfk3
        have HN3 := hid hfn3
        have HJ3 := hid hJ3
        clear hr3 hfk3 hfn3 hJ3 hk3 hw0 hw1 HRK HFK HFN
        gi_wp2
        gi_loopw [5] (fun i5 wi => ∃ i0 : Int, i5 = .int .i64 i0 ∧ -1 ≤ i0 ∧ i0 < k ∧ TailAt n k x (i0 + 1).toNat ∧ Below W3.heap.size W3 wi) (fun i5 _ => (intOf i5 + 1).toNat)
        case atStart =>
          refine ⟨k - 1, by first | rfl | (congr 1), by omega, by omega, ?_, Below.refl _ _⟩
          intro j h1 h2
          omega
        case round =>
          obtain ⟨i0, rfl, hi1, hi2, hT, hbi⟩ := hrel
          have hgk : wr.cell? ⟨kb, 0, none⟩ = some (.int .i64 k) := (hbi.cell (p := ⟨kb, 0, none⟩) (by show kb < _; omega)).trans hg30
          have hgn : wr.cell? ⟨nb, 0, none⟩ = some (.int .i64 n) := (hbi.cell (p := ⟨nb, 0, none⟩) (by show nb < _; omega)).trans hg31
          have hri := HR3.out.keep (hbi.block it HR3.out.lt)
          have HBI := hid hbi
          clear hbi
          by_cases h0 : 0 ≤ i0
          · obtain ⟨m, rfl⟩ := Int.eq_ofNat_of_zero_le h0
            have e1 : ((m : Int) + 1).toNat = m + 1 := by omega
            rw [e1] at hT
            have hmk : m < k := by omega
            have hle := tail_le HXL.out HXP.out HXB.out hmk hT
            have hc : wr.cell? ⟨it, m, none⟩ = some (.int .i64 (x[m]?.getD 0)) := hri.cell (by rw [HXL.out]; exact hmk)
            have hw1 : wrap64 ((n : Int) - k) = (n : Int) - k := by unfold wrap64; omega
            have hw2 : wrap64 ((n : Int) - k + m) = (n : Int) - k + m := by unfold wrap64; omega
            have hz := hri.frozen m
            have hlt3 := hri.lt
            have HRI := hid hri
            clear hri
            have hm0 : (0 : Int) ≤ (m : Int) := by omega
            have hm1 : (m : Int) < (k : Int) := by omega
            have HT := hid hT
            by_cases he : x[m]?.getD 0 = (n : Int) - k + m
            · have hst := tail_step HXL.out hmk hT he
              have hbe : (x[m]?.getD 0 == (n : Int) - k + m) = true := by simpa using he
              have HST := hid hst
              clear he hst hT hle
              gi_wp2
              gi_quiet (fail)
              gi_wp2
              refine ⟨⟨(m : Int) - 1, rfl, by omega, by omega, ?_, below_drewN HBI.out nq⟩, ?_⟩
              · rw [show ((m : Int) - 1 + 1).toNat = m by omega]; exact HST.out
              · simp [intOf]
            · have hbe : (x[m]?.getD 0 == (n : Int) - k + m) = false := by simpa using he
              have hlt : x[m]?.getD 0 < (n : Int) - k + m := by omega
              have HLT := hid hlt
              clear he hT hle hlt
              gi_wp2
              gi_quiet (fail)
              have HRQ := hid (show SpRow (wr.drewN nq) it x from HRI.out)
              have HBQ := hid (below_drewN HBI.out nq)
              have hgk2 : (wr.drewN nq).cell? ⟨kb, 0, none⟩ = some (.int .i64 k) := hgk
              have hc2 : (wr.drewN nq).cell? ⟨it, m, none⟩ = some (.int .i64 (x[m]?.getD 0)) := hc
              have hz2 : (wr.drewN nq).frozen? ⟨it, m, none⟩ = false := hz
              have hlt2 : it < (wr.drewN nq).heap.size := hlt3
              clear HRI HBI hgk hgn hc hz hlt3
              generalize wr.drewN nq = w4 at HRQ HBQ hgk2 hc2 hz2 hlt2 ⊢
              have hv : wrap64 (x[m]?.getD 0 + 1) = x[m]?.getD 0 + 1 := by
                have h1 := HLT.out
                have h2 : (0 : Int) ≤ x[m]?.getD 0 := HXN.out m
                unfold wrap64; omega
              have HV := hid hv
              clear hv
              have HKS := hid (HRQ.out.set m (by rw [HXL.out]; exact hmk) (x[m]?.getD 0 + 1))
              rw [fillS_start (by rw [HXL.out]; exact hmk)] at HKS
              have HW9 := hid (show wrap64 ((m : Int) + 1) = ((m + 1 : Nat) : Int) by unfold wrap64; omega)
              gi_wp2
              gi_loopw [6] (fun v wj => ∃ j : Nat, m + 1 ≤ j ∧ j ≤ k ∧ v = .int .i64 j ∧ SpRow wj it (fillS x m j) ∧ Keep (fun q => q ≠ it) w4 wj) (fun v _ => k - (intOf v).toNat)
              case atStart => exact ⟨m + 1, Nat.le_refl _, by omega, by rw [show ((m : Int) + 1) = ((m + 1 : Nat) : Int) by omega], by have h := HKS.out; with_reducible (first | (rw [HV.out]; exact h) | exact h), Keep.set _ _ _ _⟩
              case round =>
                obtain ⟨j, hj1, hj2, rfl, hrj, hkj⟩ := hrel
                have hgj : wr.cell? ⟨kb, 0, none⟩ = some (.int .i64 k) := hkj.cell hgk2 (by have := HIT.out; omega)
                by_cases hjk : j < k
                · have hlen := fillS_len (m := m) (j := j) (x := x) (by omega) (show j ≤ x.length by rw [HXL.out]; omega)
                  have hget := fillS_get (x := x) (show m < j by omega) (by rw [HXL.out]; omega)
                  have hset := fillS_set (x := x) (show m ≤ j by omega) (by rw [HXL.out]; omega)
                  have hcj := hrj.cell (j := j - 1) (by rw [hlen, HXL.out]; omega)
                  rw [hget] at hcj
                  have hzj := hrj.frozen j
                  have hcj2 := hrj.cell (j := j) (by rw [hlen, HXL.out]; exact hjk)
                  obtain ⟨u, hu⟩ : ∃ u, u = (fillS x m j)[j]?.getD 0 := ⟨_, rfl⟩
                  rw [← hu] at hcj2
                  have hltj := hrj.lt
                  have hwj : wrap64 ((j : Int) - 1) = ((j - 1 : Nat) : Int) := by unfold wrap64; omega
                  have hwv : wrap64 (x[m]?.getD 0 + ((j - m : Nat) : Int) + 1) = x[m]?.getD 0 + ((j + 1 - m : Nat) : Int) := by
                    have h1 := HLT.out
                    have h2 : (0 : Int) ≤ x[m]?.getD 0 := HXN.out m
                    unfold wrap64; omega
                  have HSJ := hid (hrj.set j (by rw [hlen, HXL.out]; exact hjk) (x[m]?.getD 0 + ((j + 1 - m : Nat) : Int)))
                  rw [hset] at HSJ
                  have i1 : (0 : Int) ≤ ((j - 1 : Nat) : Int) := by omega
                  have i2 : ((j - 1 : Nat) : Int) < (k : Int) := by omega
                  have i3 : (0 : Int) ≤ (j : Int) := by omega
                  have i4 : (j : Int) < (k : Int) := by omega
                  have HKJ := hid hkj
                  obtain ⟨y, hy⟩ : ∃ y, y = x[m]?.getD 0 + ((j - m : Nat) : Int) := ⟨_, rfl⟩
                  obtain ⟨z, hz⟩ : ∃ z, z = x[m]?.getD 0 + ((j + 1 - m : Nat) : Int) := ⟨_, rfl⟩
                  rw [← hy, ← hz] at hwv
                  rw [← hy] at hcj
                  rw [← hz] at HSJ
                  obtain ⟨p, hp⟩ : ∃ p, p = j - 1 := ⟨_, rfl⟩
                  rw [← hp] at hcj hwj i1 i2
                  have hjp : (j : Int) - 1 = (p : Int) := by omega
                  clear hrj hkj hlen hget hset hy hz hp hu
                  gi_wp2
                  refine ⟨⟨j + 1, by omega, by omega, ?_, HSJ.out, HKJ.out.trans (Keep.set _ _ _ _)⟩, by simp [intOf]; omega⟩
                  rw [show ((j : Int) + 1) = ((j + 1 : Nat) : Int) by omega]
                · obtain rfl : j = k := by omega
                  have hnx := HC.out.at HX.out
                  rw [fillS_done HXL.out hkn hmk HT.out HLT.out] at hnx
                  have hi1 : i + 1 < xs.length := (List.getElem?_eq_some_iff.1 hnx).1
                  have HNX := hid hnx
                  have HKJ := hid hkj
                  have HRJ := hid hrj
                  clear hnx hkj hrj
                  gi_wp2
                  gi_roundg (xs.length - (i + 1))
                  case measure => omega
                  case rel =>
                    refine ⟨i + 1, fillS x m j, rfl, HNX.out, ?_, HRJ.out, ?_, ?_, ?_⟩
                    · exact HJ.out it _ W3 _ HIT.out HJ3.out ((Keep.of_below HBQ.out).trans HKJ.out)
                    · exact (HKJ.out.block kb (by have := HBQ.out.size; omega) (by have := HIT.out; omega)).trans ((HBQ.out.block kb (by omega)).trans HK3.out)
                    · exact (HKJ.out.block nb (by have := HBQ.out.size; omega) (by have := HIT.out; omega)).trans ((HBQ.out.block nb (by omega)).trans HN3.out)
                    · have := HKJ.out.size; have := HBQ.out.size; omega
          · obtain rfl : i0 = -1 := by omega
            have hn0 : decide ((0 : Int) ≤ -1) = false := by decide
            have HT := hid hT
            clear hT
            gi_wp2
            gi_quiet (fail)
            gi_wp2
            refine bodyPost_ret (results_none rfl _ _ _) rfl ?_
            refine ⟨⟨_, rfl⟩, .inl ⟨it, HIT.out, ?_⟩⟩
            have hnx := HC.out.at HX.out
            rw [next_none HXL.out hkn (by simpa using HT.out)] at hnx
            rw [← take_all_at HX.out hnx]
            exact HJ.out it _ W3 _ HIT.out HJ3.out (Keep.of_below (below_drewN HBI.out _))
      · gi_wp2
        refine bodyPost_ret (results_none rfl _ _ _) rfl ?_
        exact ⟨⟨_, rfl⟩, .inr ⟨_, List.take_prefix _ _, hJx⟩⟩
  · have HNIL := hid (HNL.out hkn)
    have hkb' : w1.cell? ⟨kb, 0, none⟩ = some (.int .i64 k) := (World.cell?_of_block (a := ⟨kb, 0, none⟩) hkb1).trans hg0
    have hnb' : w1.cell? ⟨nb, 0, none⟩ = some (.int .i64 n) := (World.cell?_of_block (a := ⟨nb, 0, none⟩) hnb1).trans hg1
    have hd : decide ((k : Int) ≤ (n : Int)) = false := by simp; omega
    have HJ1 := hid hJ1
    have HIT := hid hit
    clear hJ1 hit hr1
    gi_wp2
    gi_loopw [] (fun wr => ∃ q, wr = w1.drewN q) (fun _ => 0)
    case atStart => exact ⟨0, rfl⟩
    case round =>
      obtain ⟨q, rfl⟩ := hrel
      have hkb2 : (w1.drewN q).cell? ⟨kb, 0, none⟩ = some (.int .i64 k) := hkb'
      have hnb2 : (w1.drewN q).cell? ⟨nb, 0, none⟩ = some (.int .i64 n) := hnb'
      gi_wp2
      go_end0
      refine ⟨⟨_, rfl⟩, .inl ⟨it, HIT.out, ?_⟩⟩
      rw [HNIL.out]
      exact HJ.out it _ _ _ HIT.out HJ1.out ((Keep.refl _ _).drewN q)
end Go.Proofs.YtlffndehhhpgjaaGreat

namespace Go.Proofs.YtlffndehhhpgjaaGreat
open Go.RowKit
set_option linter.unusedVariables false
set_option linter.unusedSimpArgs false

theorem sets_c (w : World) (n k : Int) :
    Calls Tryz.prog 178 #[.int .i64 n, .int .i64 k] w fun e w' => e = .returned (.func (.func 222) #[] #[.pointer (some ⟨w.heap.size + 1, 0, none⟩), .pointer (some ⟨w.heap.size, 0, none⟩)]) ∧
      w' = (w.alloc (.cells #[.int .i64 n] 3)).alloc (.cells #[.int .i64 k] 3) := by
  have hmf : ∀ (fn : Fn) (first cap : Array Value) (w : World), (Instr.makeFunc fn first cap).run Tryz.prog w = .ok (.func fn first cap) w := fun _ _ _ _ => rfl
  go_enter Tryz.func178, Tryz.ntmps178
  go_wp2
  go_ret
  exact ⟨by simp, rfl⟩
end Go.Proofs.YtlffndehhhpgjaaGreat

namespace Go.Proofs.YtlffndehhhpgjaaGreat
open Go.RowKit
set_option linter.unusedVariables false
set_option linter.unusedSimpArgs false

def Marks (b : Nat) : Nat → List Deferred → World → Prop
  | _, [], _ => True
  | top, d :: ds, w => ∃ h, b ≤ h ∧ h < top ∧ d = { target := .collected h, args := #[] } ∧ w.heap[h]? = some (.deferred (some [])) ∧ Marks b h ds w

theorem Marks.keep {b : Nat} {S : Nat → Prop} {A B : World} (hk : Keep S A B) : ∀ {top : Nat} {D : List Deferred}, (∀ k, k < A.heap.size → b ≤ k → k < top → A.heap[k]? = some (.deferred (some [])) → S k) → Marks b top D A → Marks b top D B
  | _, [], _, _ => trivial
  | top, d :: ds, hS, h => by
    obtain ⟨k, h1, h2, h3, h4, h5⟩ := h
    have hlt := (Array.getElem?_eq_some_iff.1 h4).1
    exact ⟨k, h1, h2, h3, (hk.block k hlt (hS k hlt h1 h2 h4)).trans h4, Marks.keep hk (fun q hq hb hqk => hS q hq hb (by omega)) h5⟩
theorem Marks.lt {b : Nat} {A : World} : ∀ {top : Nat} {D : List Deferred}, Marks b top D A → Marks b A.heap.size D A
  | _, [], _ => trivial
  | top, d :: ds, ⟨k, h1, h2, h3, h4, h5⟩ => ⟨k, h1, (Array.getElem?_eq_some_iff.1 h4).1, h3, h4, h5⟩
theorem Marks.up {b top t2 : Nat} {D : List Deferred} {A : World} (h : Marks b top D A) (ht : top ≤ t2) : Marks b t2 D A := by
  cases D with
  | nil => trivial
  | cons d ds =>
    obtain ⟨k, h1, h2, h3⟩ := h
    exact ⟨k, h1, by omega, h3⟩
theorem Marks.below {b k top : Nat} {D : List Deferred} {A : World} (hk : top ≤ k) : ∀ (o : Obj), Marks b top D A → Marks b top D (A.putObj k o) := fun o h => by
  induction D generalizing top with
  | nil => trivial
  | cons d ds ih =>
    obtain ⟨q, h1, h2, h3, h4, h5⟩ := h
    exact ⟨q, h1, h2, h3, (World.putObj_heap_other (by omega)).trans h4, ih (by omega) h5⟩

end Go.Proofs.YtlffndehhhpgjaaGreat

namespace Go.Proofs.YtlffndehhhpgjaaGreat
open Go.RowKit
set_option linter.unusedVariables false
set_option linter.unusedSimpArgs false
attribute [local go_sem] Oper.semAt_some

theorem RowsO.lt {E T : TypeId} {W : World} {base : Nat} {S : Nat → Prop} {v : Value} {ls : List (List Int)} (h : RowsO E T W base S v ls) : RowsO E T W base (fun b => S b ∧ b < W.heap.size) v ls := by
  obtain ⟨vs, ho, hg, he⟩ := h
  refine ⟨vs, ho, fun k hk => ⟨hg k hk, (ho.lt k hk).2⟩, fun j hj => ?_⟩
  obtain ⟨u, hu, a, n, cap, e, hn, hm, hel⟩ := he j hj
  refine ⟨u, hu, a, n, cap, e, hn, hm, fun i hi => ?_⟩
  obtain ⟨b, off, e, hS, hlt, rest⟩ := hel i hi
  exact ⟨b, off, e, ⟨hS, hlt⟩, hlt, rest⟩
theorem RowsO.mono {E T : TypeId} {W : World} {base : Nat} {S S' : Nat → Prop} {v : Value} {ls : List (List Int)} (h : RowsO E T W base S v ls) (hs : ∀ b, S b → S' b) : RowsO E T W base S' v ls := by
  obtain ⟨vs, ho, hg, he⟩ := h
  refine ⟨vs, ho, fun k hk => hs _ (hg k hk), fun j hj => ?_⟩
  obtain ⟨u, hu, a, n, cap, e, hn, hm, hel⟩ := he j hj
  refine ⟨u, hu, a, n, cap, e, hn, hm, fun i hi => ?_⟩
  obtain ⟨b, off, e, hS, hlt, rest⟩ := hel i hi
  exact ⟨b, off, e, hs _ hS, hlt, rest⟩
theorem comb_count : ∀ (m k : Nat) (a : Int), (comb m k a).length ≤ 2 ^ m
  | 0, 0, a => Nat.le_refl _
  | m + 1, 0, a => Nat.one_le_two_pow
  | 0, k + 1, a => by simp [comb]
  | m + 1, k + 1, a => by
    simp only [comb, List.length_append, List.length_map]
    have h1 := comb_count m k (a + 1)
    have h2 := comb_count m (k + 1) (a + 1)
    rw [Nat.pow_succ]; omega
theorem ints_row {W : World} {it : Nat} {x : List Int} {sp : List Value} {E : TypeId} (h : W.heap[it]? = some (.cells (x.map (Value.int .i64) ++ sp).toArray E (0, 0))) : IntsAt W (some ⟨it, 0, none⟩) x := by
  intro j hj
  refine ⟨it, 0, rfl, (Array.getElem?_eq_some_iff.1 h).1, ?_⟩
  rw [Nat.zero_add]
  simp [World.cell?, h, List.getElem?_append_left, hj]
theorem ElemI.sp {W : World} {base g cap : Nat} {S : Nat → Prop} {l : List Int} (h : SpRow W g l) (hm : l.length ≤ maxLen) (hS : S g) : ElemI 3 W base S (.slice (some ⟨g, 0, none⟩) l.length cap) l := by
  refine ⟨_, _, cap, rfl, rfl, hm, fun j hj => ⟨g, 0, rfl, hS, h.lt, ?_, ?_⟩⟩
  · obtain ⟨sp, h⟩ := h
    exact .inr ⟨_, _, h⟩
  · rw [Nat.zero_add]; exact h.cell hj
def SIt (o Z it b : Nat) : Prop := b ≠ o ∧ b ≠ Z ∧ b ≠ Z + 1 ∧ b ≠ Z + 2 ∧ b ≠ Z + 3 ∧ b ≠ it

def CircI (w : World) (q1 q6 q7 base Z it : Nat) (mv : Value) (W : Nat) (D : List Deferred) (L : List (List Int)) (Y : World) : Prop :=
  ∃ v, Boxed Y q1 23 mv ∧ Boxed Y q6 3 (.int .i64 W) ∧ Boxed Y q7 22 v ∧ Below w.heap.size w Y ∧ Z + 2 ≤ Y.heap.size ∧ RowsO 3 24 Y base (SIt q7 Z it) v L ∧ Marks base Z D Y ∧ (∃ u, Boxed Y Z 3 u) ∧ ∃ u, Boxed Y (Z + 1) 3 u
theorem CircI.keep {w : World} {q1 q6 q7 base Z it it2 : Nat} {mv : Value} {W : Nat} {D : List Deferred} {L : List (List Int)} {A B : World} (h : CircI w q1 q6 q7 base Z it mv W D L A) (hk : Keep (fun k => k ≠ Z + 2 ∧ k ≠ Z + 2 + 1 ∧ k ≠ it2) A B)
    (h1 : q1 < Z) (h6 : q6 < Z) (h7 : q7 < Z) (hw : w.heap.size ≤ Z) (hi : Z + 4 ≤ it2) (e : it = it2) : CircI w q1 q6 q7 base Z it mv W D L B := by
  subst e
  obtain ⟨v, y1, y6, y7, yB, yS, yR, yD, ⟨u0, z0⟩, u1, z1⟩ := h
  refine ⟨v, (hk.block _ y1.lt (by omega)).trans y1, (hk.block _ y6.lt (by omega)).trans y6, (hk.block _ y7.lt (by omega)).trans y7, hk.below yB (by omega) (fun k _ => by omega), Nat.le_trans yS hk.size,
              yR.keep (hk.mono fun k hk => ⟨hk.2.2.2.1, hk.2.2.2.2.1, hk.2.2.2.2.2⟩), yD.keep hk (fun k _ _ hk _ => by omega), ⟨u0, (hk.block _ z0.lt (by omega)).trans z0⟩, u1, (hk.block _ z1.lt (by omega)).trans z1⟩
theorem CircI.below {w : World} {q1 q6 q7 base Z it : Nat} {mv : Value} {W : Nat} {D : List Deferred} {L : List (List Int)} {A B : World} (h : CircI w q1 q6 q7 base Z it mv W D L A) (hb : Below A.heap.size A B) : CircI w q1 q6 q7 base Z it mv W D L B := by
  obtain ⟨v, y1, y6, y7, yB, yS, yR, yD, ⟨u0, z0⟩, u1, z1⟩ := h
  exact ⟨v, (hb.block _ y1.lt).trans y1, (hb.block _ y6.lt).trans y6, (hb.block _ y7.lt).trans y7, chain yB hb, Nat.le_trans yS hb.size, yR.keep (Keep.of_below hb), Marks.keep (Keep.of_below hb : Keep (fun _ => True) A B) (fun _ _ _ _ _ => trivial) yD, ⟨u0, (hb.block _ z0.lt).trans z0⟩, u1, (hb.block _ z1.lt).trans z1⟩
theorem CircI.start {w X wL : World} {q1 q6 q7 base : Nat} {mv v : Value} {W : Nat} {D : List Deferred} {L : List (List Int)} (y1 : Boxed X q1 23 mv) (y6 : Boxed X q6 3 (.int .i64 W)) (y7 : Boxed X q7 22 v) (yB : Below w.heap.size w X)
    (yR : RowsO 3 24 X base (fun b => b ≠ q7) v L) (yD : Marks base X.heap.size D X) (hb : Below X.heap.size X wL) (hs : wL.heap.size = X.heap.size + 2) (z0 : ∃ u, Boxed wL X.heap.size 3 u) (z1 : ∃ u, Boxed wL (X.heap.size + 1) 3 u) (it : Nat) (hi : X.heap.size + 4 ≤ it) : CircI w q1 q6 q7 base X.heap.size it mv W D L wL := by
  refine ⟨v, (hb.block _ y1.lt).trans y1, (hb.block _ y6.lt).trans y6, (hb.block _ y7.lt).trans y7, chain yB hb, by omega, ?_, Marks.keep (Keep.of_below hb : Keep (fun _ => True) X wL) (fun _ _ _ _ _ => trivial) yD, z0, z1⟩
  exact (yR.lt.mono fun q hq => ⟨hq.1, by have := hq.2; omega, by have := hq.2; omega, by have := hq.2; omega, by have := hq.2; omega, by have := hq.2; omega⟩ : RowsO 3 24 X base (SIt q7 X.heap.size it) v L).keep (Keep.of_below hb)
end Go.Proofs.YtlffndehhhpgjaaGreat

namespace Go.Proofs.YtlffndehhhpgjaaGreat
open Go.RowKit
set_option linter.unusedVariables false
set_option linter.unusedSimpArgs false

def CircRes (p : List Int × Int) (e : Ending) (w : World) : Prop := ∃ b k c, e = .returned (.tuple #[.slice b k c, .int .i64 p.2]) ∧ p.1.length = k ∧ k ≤ maxLen ∧ IntsAt w b p.1
theorem CircRes.nil (z : Int) (w : World) : CircRes ([], z) (.returned (.tuple #[.slice none 0 0, .int .i64 z])) w := ⟨none, 0, 0, rfl, rfl, Nat.zero_le _, fun j hj => by simp at hj⟩

end Go.Proofs.YtlffndehhhpgjaaGreat

namespace Go.Proofs.YtlffndehhhpgjaaGreat
open Go.RowKit
set_option linter.unusedVariables false
set_option linter.unusedSimpArgs false

theorem r2within_c (n lo hi : Int) (w : World) : Calls Tryz.prog 131 #[.int .i64 n, .int .i64 lo, .int .i64 hi] w fun e w' => e = .returned (.bool (inB n lo hi)) ∧ w = w' := by
  by_cases h1 : lo ≤ n <;> by_cases h2 : n ≤ hi
  all_goals
    go_enter Tryz.func131, Tryz.ntmps131
    go_wp2
    go_ret
    exact ⟨ret_bool (by simp [inB, h1, h2]), rfl⟩
theorem r3within_c (n lo hi : Int) (w : World) : Calls Tryz.prog 174 #[.int .i64 n, .int .i64 lo, .int .i64 hi] w fun e w' => e = .returned (.bool (inB n lo hi)) ∧ w = w' := by
  by_cases h1 : lo ≤ n <;> by_cases h2 : n ≤ hi
  all_goals
    go_enter Tryz.func174, Tryz.ntmps174
    go_wp2
    go_ret
    exact ⟨ret_bool (by simp [inB, h1, h2]), rfl⟩

theorem all_stop {α : Type} {p : α → Bool} {l : List α} {k : Nat} (hk : k < l.length) (h : p l[k] = false) : l.all p = false := by
  rw [List.all_eq_false]; exact ⟨l[k], List.getElem_mem hk, by simp [h]⟩
theorem all_done {α : Type} {p : α → Bool} {l : List α} (h : ∀ j (hj : j < l.length), p l[j] = true) : l.all p = true := by
  rw [List.all_eq_true]
  intro x hx
  obtain ⟨i, hi, e⟩ := List.getElem_of_mem hx
  rw [← e]; exact h i hi

theorem r2row_c (w : World) (a : Option Addr) (n cap : Nat) (l : List Int) (hn : l.length = n) (hm : n ≤ maxLen) (H : IntsAt w a l) :
    Calls Tryz.prog 130 #[.slice a n cap] w fun e w' => e = .returned (.bool (okMRow l)) ∧ w = w' := by
  have HN := hid hn
  have HH := hid H
  clear hn H
  unfold maxLen at hm
  go_enter Tryz.func130, Tryz.ntmps130
  go_wp2
  go_loop [7] (fun i => ∃ k : Nat, k ≤ n ∧ i = .int .i64 k ∧ ∀ j (hj : j < l.length), j < k → inB l[j] (-1) 1 = true) (fun i => n - (intOf i).toNat)
  case atStart => exact ⟨0, Nat.zero_le _, rfl, fun i _ h => by omega⟩
  case round =>
    obtain ⟨k, hk, rfl, hno⟩ := hrel
    have HNO := hid hno
    clear hno
    by_cases hlt : k < n
    · have hkl : k < l.length := by rw [HN.out]; exact hlt
      obtain ⟨b, off, rfl, hbs, hc⟩ := HH.out k hkl
      have hg : l[k]?.getD 0 = l[k] := by rw [List.getElem?_eq_getElem hkl]; rfl
      rw [hg] at hc
      obtain ⟨B, hB⟩ : ∃ B, B = inB l[k] (-1) 1 := ⟨_, rfl⟩
      have HW := hid (fun W => r2within_c l[k] (-1) 1 W)
      rw [← hB] at HW
      have HBB := hid hB
      have HKL := hid hkl
      clear hg hB
      cases B
      · go_wp2_with (go_at_call 131; refine (HW.out _).mono ?_; rintro e w1 ⟨rfl, rfl⟩)
        go_ret
        refine ⟨ret_bool ?_, rfl⟩
        unfold okMRow
        rw [all_stop HKL.out HBB.out.symm]; simp
      · go_wp2_with (go_at_call 131; refine (HW.out _).mono ?_; rintro e w1 ⟨rfl, rfl⟩)
        go_round
        case rel =>
          refine ⟨k + 1, by omega, by go_num, fun j hj hjk => ?_⟩
          by_cases e : j = k
          · subst e; exact HBB.out.symm
          · exact HNO.out j hj (by omega)
        case measure => simp [intOf]; omega
    · go_wp2_with (go_at_call 131; refine (r2within_c _ _ _ _).mono ?_; rintro e w1 ⟨rfl, rfl⟩)
      go_ret
      refine ⟨ret_bool ?_, rfl⟩
      unfold okMRow
      rw [HN.out, all_done (fun j hj => HNO.out j hj (by have := HN.out; omega))]; simp

theorem r2Valid_c (w : World) (a : Option Addr) (n cap : Nat) (M : Mask) (hn : M.length = n) (hm : n ≤ maxLen) (H : RowsAt w a M) :
    Calls Tryz.prog 68 #[.slice a n cap] w fun e w' => e = .returned (.bool (okM M)) ∧ w = w' := by
  have HN := hid hn
  have HH := hid H
  clear hn H
  unfold maxLen at hm
  go_enter Tryz.func68, Tryz.ntmps68
  go_wp2
  go_loop [7] (fun i => ∃ k : Nat, k ≤ n ∧ i = .int .i64 k ∧ ∀ j (hj : j < M.length), j < k → (decide (M[j].length = colsM M) && okMRow M[j]) = true) (fun i => n - (intOf i).toNat)
  case atStart => exact ⟨0, Nat.zero_le _, rfl, fun i _ h => by omega⟩
  case round =>
    obtain ⟨k, hk, rfl, hno⟩ := hrel
    have HNO := hid hno
    clear hno
    by_cases hlt : k < n
    · have hkl : k < M.length := by rw [HN.out]; exact hlt
      obtain ⟨b, off, ra, rn, rc, rfl, hbs, hc, hrn, hrm, hri⟩ := HH.out k hkl
      obtain ⟨b', off', qa, qn, qc, e0, hbs', hc0, hqn, _, _⟩ := HH.out 0 (by omega)
      cases e0
      rw [Nat.add_zero] at hc0
      have hcol : colsM M = qn := by unfold colsM; rw [List.getElem?_eq_getElem (by omega), ← hqn]; rfl
      have HW := hid (r2row_c w ra rn rc M[k] hrn hrm hri)
      obtain ⟨B, hB⟩ : ∃ B, B = okMRow M[k] := ⟨_, rfl⟩
      rw [← hB] at HW
      have HBB := hid hB
      have HKL := hid hkl
      have HCol := hid hcol
      have HRN := hid hrn
      unfold maxLen at hrm
      have h0 : 0 < n := by omega
      clear hB hcol hrn hqn hri
      cases B
      · go_wp2_with (go_at_call 130; refine HW.out.mono ?_; rintro e w1 ⟨rfl, rfl⟩)
        go_ret
        refine ⟨ret_bool ?_, rfl⟩
        unfold okM
        rw [all_stop HKL.out (by rw [← HBB.out]; simp)]; simp
      · by_cases hq : rn = qn
        · have hd : ((rn : Int) != (qn : Int)) = false := by simp [hq]
          have HQ := hid hq
          clear hq
          go_wp2_with (go_at_call 130; refine HW.out.mono ?_; rintro e w1 ⟨rfl, rfl⟩)
          go_round
          case rel =>
            refine ⟨k + 1, by omega, by go_num, fun j hj hjk => ?_⟩
            by_cases e : j = k
            · subst e; rw [← HBB.out, HCol.out, HRN.out, HQ.out]; simp
            · exact HNO.out j hj (by omega)
          case measure => simp [intOf]; omega
        · have hd : ((rn : Int) != (qn : Int)) = true := by simp; omega
          have HQ := hid hq
          clear hq
          go_wp2_with (go_at_call 130; refine HW.out.mono ?_; rintro e w1 ⟨rfl, rfl⟩)
          go_ret
          refine ⟨ret_bool ?_, rfl⟩
          unfold okM
          rw [all_stop HKL.out (by rw [HCol.out, HRN.out]; simp [HQ.out])]; simp
    · go_wp2_with (go_at_call 131; refine (r2within_c _ _ _ _).mono ?_; rintro e w1 ⟨rfl, rfl⟩)
      go_ret
      refine ⟨ret_bool ?_, rfl⟩
      unfold okM
      rw [HN.out, all_done (fun j hj => HNO.out j hj (by have := HN.out; omega))]; simp

end Go.Proofs.YtlffndehhhpgjaaGreat

namespace Go.Proofs.YtlffndehhhpgjaaGreat
open Go.RowKit
set_option linter.unusedVariables false
set_option linter.unusedSimpArgs false

def twoM : Mask := [[1, 1, 0], [0, 1, 1]]
theorem two_rows (w : World) : RowsAt (((w.alloc (.cells #[.int .i64 1, .int .i64 1, .int .i64 0] 3)).alloc (.cells #[.int .i64 0, .int .i64 1, .int .i64 1] 3)).alloc (.cells #[.slice (some ⟨w.heap.size, 0, none⟩) 3 3, .slice (some ⟨w.heap.size + 1, 0, none⟩) 3 3] 24)) (some ⟨w.heap.size + 2, 0, none⟩) twoM := by
  obtain ⟨w1, h1⟩ : ∃ w1, w1 = w.alloc (.cells #[.int .i64 1, .int .i64 1, .int .i64 0] 3) := ⟨_, rfl⟩
  obtain ⟨w2, h2⟩ : ∃ w2, w2 = w1.alloc (.cells #[.int .i64 0, .int .i64 1, .int .i64 1] 3) := ⟨_, rfl⟩
  rw [← h1, ← h2]
  have s1 : w1.heap.size = w.heap.size + 1 := by rw [h1]; simp
  have s2 : w2.heap.size = w.heap.size + 2 := by rw [h2]; simp [s1]
  have i1 : IntsAt w1 (some ⟨w.heap.size, 0, none⟩) [1, 1, 0] := fun j hj => ⟨w.heap.size, 0, rfl, by omega, by
    rw [h1, World.cell?_alloc_at _ _ _ _ (by simp)]
    match j, hj with
    | 0, _ => rfl
    | 1, _ => rfl
    | 2, _ => rfl⟩
  have i2 : IntsAt w2 (some ⟨w1.heap.size, 0, none⟩) [0, 1, 1] := fun j hj => ⟨w1.heap.size, 0, rfl, by omega, by
    rw [h2, World.cell?_alloc_at _ _ _ _ (by simp)]
    match j, hj with
    | 0, _ => rfl
    | 1, _ => rfl
    | 2, _ => rfl⟩
  rw [s1] at i2
  have b2 : Below w1.heap.size w1 w2 := by rw [h2]; exact (Below.refl _ _).alloc (Nat.le_refl _) _
  obtain ⟨o, ho⟩ : ∃ o, o = Obj.cells #[.slice (some ⟨w.heap.size, 0, none⟩) 3 3, .slice (some ⟨w.heap.size + 1, 0, none⟩) 3 3] 24 := ⟨_, rfl⟩
  rw [← ho]
  have b3 : Below w2.heap.size w2 (w2.alloc o) := (Below.refl _ _).alloc (Nat.le_refl _) _
  have hc : ∀ j, (w2.alloc o).cell? ⟨w.heap.size + 2, j, none⟩ = #[Value.slice (some ⟨w.heap.size, 0, none⟩) 3 3, .slice (some ⟨w.heap.size + 1, 0, none⟩) 3 3][j]? := fun j => by
    rw [ho, World.cell?_alloc_at _ _ _ _ (by rw [s2])]
  intro j hj
  match j, hj with
  | 0, _ => exact ⟨_, 0, some ⟨w.heap.size, 0, none⟩, 3, 3, rfl, by simp [s2], hc 0, rfl, by decide, (i1.below b2).below b3⟩
  | 1, _ => exact ⟨_, 0, some ⟨w.heap.size + 1, 0, none⟩, 3, 3, rfl, by simp [s2], hc 1, rfl, by decide, i2.below b3⟩

end Go.Proofs.YtlffndehhhpgjaaGreat

namespace Go.Proofs.YtlffndehhhpgjaaGreat
open Go.RowKit
set_option linter.unusedVariables false
set_option linter.unusedSimpArgs false

open Classical in
noncomputable def lift (W X : World) : World := if Below W.heap.size W X then X else W
theorem lift_below (W X : World) : Below W.heap.size W (lift W X) := by
  unfold lift; split
  · assumption
  · exact Below.refl _ _
theorem lift_of {W X : World} (h : Below W.heap.size W X) : X = lift W X := by unfold lift; rw [if_pos h]
theorem lift_cell {W : World} {b o : Nat} {v : Value} (hb : b < W.heap.size) (h : W.cell? ⟨b, o, none⟩ = some v) : ∀ X, (lift W X).cell? ⟨b, o, none⟩ = some v := fun X => ((lift_below W X).cell (p := ⟨b, o, none⟩) hb).trans h

theorem lift_calls {P : Program} {f : FuncId} {args : Array Value} {W X : World} {v : Value} (h : Calls P f args (lift W X) fun e w' => e = .returned v ∧ Below (lift W X).heap.size (lift W X) w') :
    Calls P f args (lift W X) fun e w'' => e = .returned v ∧ ∃ Y, w'' = lift W Y :=
  h.mono fun e w' ⟨he, hb⟩ => ⟨he, w', lift_of (chain (lift_below W X) hb)⟩

theorem region_lift {P : Program} {id : Nat} {Q : Exit → Act → World → Prop} {a : Act} {w : World} {l : List Oper} (hm : P.follows .mixedOrders = true) (hB : Region.lexB .any l.toArray = true)
    (h : wpQuiet P l.toArray (fun w' => ∃ X, w' = lift w X) (fun a' => ∀ w', (∃ X, w' = lift w X) → Q .normal a' w') l a) : (Code.region id l.toArray true).wp P Q a w :=
  wp_region_quiet (C := fun w' => ∃ X, w' = lift w X) hm hB ⟨_, lift_of (⟨rfl, rfl, rfl, Nat.le_refl _, fun _ _ => rfl⟩ : Below w.heap.size w { w with drawn := w.drawn + 1 })⟩ (by simpa using h)
end Go.Proofs.YtlffndehhhpgjaaGreat

namespace Go.Proofs.YtlffndehhhpgjaaGreat
section
open Go.RowKit Go.Lib
set_option linter.unusedVariables false
set_option linter.unusedSimpArgs false

def wideV (V : Int) : Value := .agg #[.int .i64 (V / 18446744073709551616), .int .u64 (V % 18446744073709551616)]
def cmpI (V U : Int) : Int := if V < U then -1 else if V = U then 0 else 1

theorem size_c (w : World) (n : Int) (h : -9223372036854775808 ≤ n ∧ n ≤ 9223372036854775807) : Calls Tryz.prog 210 #[.int .i64 n] w fun e w' => e = .returned (.int .u64 (n.natAbs : Nat)) ∧ w = w' := by
  obtain ⟨m, hm⟩ : ∃ m : Int, m = (n.natAbs : Nat) := ⟨_, rfl⟩
  rw [← hm]
  by_cases h0 : n < 0
  · have h1 : IntKind.u64.wrap n = 18446744073709551616 + n := by rw [IntKind.wrap_u64]; omega
    have h2 : IntKind.u64.wrap (-(18446744073709551616 + n)) = m := by rw [IntKind.wrap_u64]; omega
    clear hm
    go_enter Tryz.func210, Tryz.ntmps210
    go_wp2
    go_ret
    exact ⟨rfl, rfl⟩
  · have h1 : IntKind.u64.wrap n = m := by rw [IntKind.wrap_u64]; omega
    clear hm
    go_enter Tryz.func210, Tryz.ntmps210
    go_wp2
    go_ret
    exact ⟨rfl, rfl⟩

set_option maxHeartbeats 1000000 in
theorem mul64_c (x y : Nat) (hx : x < 18446744073709551616) (hy : y < 18446744073709551616) (w : World) :
    Calls Tryz.prog 209 #[.int .u64 x, .int .u64 y] w fun e w' => e = .returned (.tuple #[.int .u64 ((x * y / 18446744073709551616 : Nat) : Int), .int .u64 ((x * y % 18446744073709551616 : Nat) : Int)]) ∧ w = w' := by
  obtain ⟨bd, bt, bw, hhi⟩ := mul64_hi x y hx hy
  have ba := half_mul_le (a := x / 4294967296) (b := y / 4294967296) (by omega) (by omega)
  have bb := half_mul_le (a := x / 4294967296) (b := y % 4294967296) (by omega) (by omega)
  have bc := half_mul_le (a := x % 4294967296) (b := y / 4294967296) (by omega) (by omega)
  have ba' : x / 4294967296 * (y / 4294967296) < 18446744073709551616 := by omega
  have bb' : x / 4294967296 * (y % 4294967296) < 18446744073709551616 := by omega
  have bc' : x % 4294967296 * (y / 4294967296) < 18446744073709551616 := by omega
  have bh1 : x / 4294967296 * (y / 4294967296) + (x / 4294967296 * (y % 4294967296) + x % 4294967296 * (y % 4294967296) / 4294967296) / 4294967296 < 18446744073709551616 := by omega
  have bh : x / 4294967296 * (y / 4294967296) + (x / 4294967296 * (y % 4294967296) + x % 4294967296 * (y % 4294967296) / 4294967296) / 4294967296 + ((x / 4294967296 * (y % 4294967296) + x % 4294967296 * (y % 4294967296) / 4294967296) % 4294967296 + x % 4294967296 * (y / 4294967296)) / 4294967296 < 18446744073709551616 := by omega
  go_enter Tryz.func209, Tryz.ntmps209
  go_wp2
  simp only [Mul64.maskN x hx, Mul64.maskN y hy, Mul64.divN, Mul64.mulN, Mul64.addN, Mul64.wrapN _ bd, Mul64.wrapN _ bb', Mul64.wrapN _ bt, Mul64.maskN _ bt, Mul64.wrapN _ bc', Mul64.wrapN _ bw, Mul64.wrapN _ ba', Mul64.wrapN _ bh1, Mul64.wrapN _ bh, Mul64.wrapM (x * y)]
  rw [hhi]
  go_ret2
  exact ⟨rfl, rfl⟩

theorem sub64 (x y b : Int) (hx : 0 ≤ x) (hy : 0 ≤ y) (hy' : y < 18446744073709551616) (hb0 : 0 ≤ b) (hb : b ≤ 1) (w : World) : (callFunc 208 #[.int .u64 x, .int .u64 y, .int .u64 b]).run Tryz.prog w =
    .ok (.value (.tuple #[.int .u64 ((x - y - b) % 18446744073709551616), .int .u64 (if x < y + b then 1 else 0)])) w := by
  obtain ⟨x, rfl⟩ := Int.eq_ofNat_of_zero_le hx
  obtain ⟨y, rfl⟩ := Int.eq_ofNat_of_zero_le hy
  obtain ⟨b, rfl⟩ := Int.eq_ofNat_of_zero_le hb0
  have e1 : (((x + 18446744073709551616 - y - b) % 18446744073709551616 : Nat) : Int) = ((x : Int) - y - b) % 18446744073709551616 := by omega
  have e2 : ((if x < y + b then 1 else 0 : Nat) : Int) = if (x : Int) < y + b then 1 else 0 := by split <;> split <;> omega
  rw [← e1, ← e2]
  rw [run_callFunc_extern Tryz.func208 (by kernel_rfl) (by kernel_rfl) (by kernel_rfl) (e := sub64Entry) (by kernel_rfl), run_sub64 x y b (by omega)]
  rfl
theorem sub64_0 (x y : Int) (hx : 0 ≤ x) (hy : 0 ≤ y) (hy' : y < 18446744073709551616) (w : World) : (callFunc 208 #[.int .u64 x, .int .u64 y, .int .u64 0]).run Tryz.prog w =
    .ok (.value (.tuple #[.int .u64 ((x - y) % 18446744073709551616), .int .u64 (if x < y then 1 else 0)])) w := by
  simpa using sub64 x y 0 hx hy hy' (Int.le_refl 0) (by decide) w

theorem opp_c (w : World) (h l : Int) (h0 : 0 ≤ h) (h1 : h ≤ 4611686018427387904) (l0 : 0 ≤ l) (l1 : l < 18446744073709551616) :
    Calls Tryz.prog 149 #[.agg #[.int .i64 h, .int .u64 l]] w fun e w' => e = .returned (wideV (-(h * 18446744073709551616 + l))) ∧ Below w.heap.size w w' := by
  obtain ⟨b, hb⟩ : ∃ b : Int, b = if (0 : Int) < l then 1 else 0 := ⟨_, rfl⟩
  have b0 : 0 ≤ b := by rw [hb]; split <;> decide
  have b1 : b ≤ 1 := by rw [hb]; split <;> decide
  have hL : (0 - l) % 18446744073709551616 = (-(h * 18446744073709551616 + l)) % 18446744073709551616 := by omega
  have hH : IntKind.i64.wrap ((0 - h - b) % 18446744073709551616) = (-(h * 18446744073709551616 + l)) / 18446744073709551616 := by
    rw [IntKind.wrap_i64]
    rcases Int.lt_or_le 0 l with hl | hl
    · rw [if_pos hl] at hb; subst hb; omega
    · rw [if_neg (by omega)] at hb; subst hb; omega
  have hu : IntKind.u64.wrap h = h := by rw [IntKind.wrap_u64]; omega
  have s1 : ∀ w, (callFunc 208 #[.int .u64 0, .int .u64 l, .int .u64 0]).run Tryz.prog w = .ok (.value (.tuple #[.int .u64 ((-(h * 18446744073709551616 + l)) % 18446744073709551616), .int .u64 b])) w := fun w => by
    rw [sub64_0 0 l (by decide) l0 l1, ← hb, hL]
  have s2 : ∀ w, (callFunc 208 #[.int .u64 0, .int .u64 h, .int .u64 b]).run Tryz.prog w = .ok (.value (.tuple #[.int .u64 ((0 - h - b) % 18446744073709551616), .int .u64 (if 0 < h + b then 1 else 0)])) w := fun w => sub64 0 h b (by decide) h0 (by omega) b0 b1 w
  obtain ⟨bo, hbo⟩ : ∃ bo : Int, bo = if 0 < h + b then 1 else 0 := ⟨_, rfl⟩
  rw [← hbo] at s2
  unfold wideV
  obtain ⟨R1, hR1⟩ : ∃ R, R = (-(h * 18446744073709551616 + l)) / 18446744073709551616 := ⟨_, rfl⟩
  obtain ⟨R2, hR2⟩ : ∃ R, R = (-(h * 18446744073709551616 + l)) % 18446744073709551616 := ⟨_, rfl⟩
  obtain ⟨R3, hR3⟩ : ∃ R, R = (0 - h - b) % 18446744073709551616 := ⟨_, rfl⟩
  rw [← hR2] at s1
  rw [← hR3] at s2 hH
  rw [← hR1] at hH
  rw [← hR1, ← hR2]
  clear hL hb hbo hR1 hR2 hR3 b0 b1
  go_enter Tryz.func149, Tryz.ntmps149
  go_wp2_with (first | simp only [s1] | simp only [s2])
  simp [bodyPost, results, Tryz.results149, go_sem]
  exact ((Below.refl _ _).alloc (Nat.le_refl _) _).alloc (by simp) _

theorem cmp_lex {V U : Int} : (V / 18446744073709551616 < U / 18446744073709551616 → V < U) ∧ (U / 18446744073709551616 < V / 18446744073709551616 → U < V) ∧
    (V / 18446744073709551616 = U / 18446744073709551616 → V % 18446744073709551616 < U % 18446744073709551616 → V < U) ∧ (V / 18446744073709551616 = U / 18446744073709551616 → U % 18446744073709551616 < V % 18446744073709551616 → U < V) ∧
    (V / 18446744073709551616 = U / 18446744073709551616 → V % 18446744073709551616 = U % 18446744073709551616 → V = U) := by omega

theorem wcompare_c (w : World) (V U : Int) : Calls Tryz.prog 207 #[wideV V, wideV U] w fun e w' => e = .returned (.int .i64 (cmpI V U)) ∧ Below w.heap.size w w' := by
  obtain ⟨k1, k2, k3, k4, k5⟩ := cmp_lex (V := V) (U := U)
  unfold wideV
  obtain ⟨h, hh⟩ : ∃ h, h = V / 18446744073709551616 := ⟨_, rfl⟩
  obtain ⟨l, hl⟩ : ∃ h, h = V % 18446744073709551616 := ⟨_, rfl⟩
  obtain ⟨h', hh'⟩ : ∃ h, h = U / 18446744073709551616 := ⟨_, rfl⟩
  obtain ⟨l', hl'⟩ : ∃ h, h = U % 18446744073709551616 := ⟨_, rfl⟩
  rw [← hh, ← hl, ← hh', ← hl']
  rw [← hh, ← hh'] at k1 k2 k3 k4 k5
  rw [← hl, ← hl'] at k3 k4 k5
  clear hh hl hh' hl'
  obtain ⟨C, hC⟩ : ∃ C, C = cmpI V U := ⟨_, rfl⟩
  rw [← hC]
  have HBL := hid (show Below w.heap.size w ((w.alloc (.cells #[.int .i64 h, .int .u64 l] 100)).alloc (.cells #[.int .i64 h', .int .u64 l'] 100)) from ((Below.refl _ _).alloc (Nat.le_refl _) _).alloc (by simp) _)
  rcases Int.lt_trichotomy h h' with c1 | c1 | c1
  · have hv := k1 c1
    obtain rfl : C = -1 := by rw [hC]; unfold cmpI; rw [if_pos hv]
    have hne : (h == h') = false := by simp; omega
    have hne2 : ¬ h = h' := by omega
    clear hC k1 k2 k3 k4 k5
    go_enter Tryz.func207, Tryz.ntmps207
    go_wp2
    go_ret
    exact ⟨rfl, HBL.out⟩
  · subst c1
    rcases Int.lt_trichotomy l l' with c2 | c2 | c2
    · have hv := k3 rfl c2
      obtain rfl : C = -1 := by rw [hC]; unfold cmpI; rw [if_pos hv]
      have hne : (l == l') = false := by simp; omega
      have hne2 : ¬ l = l' := by omega
      clear hC k1 k2 k3 k4 k5
      go_enter Tryz.func207, Tryz.ntmps207
      go_wp2
      go_ret
      exact ⟨rfl, HBL.out⟩
    · subst c2
      have hv := k5 rfl rfl
      obtain rfl : C = 0 := by rw [hC]; unfold cmpI; rw [if_neg (by omega), if_pos hv]
      clear hC k1 k2 k3 k4 k5
      go_enter Tryz.func207, Tryz.ntmps207
      go_wp2
      go_ret
      exact ⟨rfl, HBL.out⟩
    · have hv := k4 rfl c2
      obtain rfl : C = 1 := by rw [hC]; unfold cmpI; rw [if_neg (by omega), if_neg (by omega)]
      have hne : (l == l') = false := by simp; omega
      have hne2 : ¬ l = l' := by omega
      have hnl : ¬ l < l' := by omega
      clear hC k1 k2 k3 k4 k5
      go_enter Tryz.func207, Tryz.ntmps207
      go_wp2
      go_ret
      exact ⟨rfl, HBL.out⟩
  · have hv := k2 c1
    obtain rfl : C = 1 := by rw [hC]; unfold cmpI; rw [if_neg (by omega), if_neg (by omega)]
    have hne : (h == h') = false := by simp; omega
    have hne2 : ¬ h = h' := by omega
    have hnl : ¬ h < h' := by omega
    clear hC k1 k2 k3 k4 k5
    go_enter Tryz.func207, Tryz.ntmps207
    go_wp2
    go_ret
    exact ⟨rfl, HBL.out⟩

theorem prod_sign (a b : Int) : ((decide (a < 0) != decide (b < 0)) = true → a * b = -(((a.natAbs * b.natAbs : Nat) : Int))) ∧ ((decide (a < 0) != decide (b < 0)) = false → a * b = ((a.natAbs * b.natAbs : Nat) : Int)) := by
  rw [Int.natCast_mul]
  rcases Int.lt_or_le a 0 with h1 | h1 <;> rcases Int.lt_or_le b 0 with h2 | h2
  · have e1 : ((a.natAbs : Nat) : Int) = -a := by omega
    have e2 : ((b.natAbs : Nat) : Int) = -b := by omega
    rw [e1, e2]
    simp [h1, h2]
    try grind
  · have e1 : ((a.natAbs : Nat) : Int) = -a := by omega
    have e2 : ((b.natAbs : Nat) : Int) = b := by omega
    rw [e1, e2]
    simp [h1, Int.not_lt.2 h2]
    try grind
  · have e1 : ((a.natAbs : Nat) : Int) = a := by omega
    have e2 : ((b.natAbs : Nat) : Int) = -b := by omega
    rw [e1, e2]
    simp [Int.not_lt.2 h1, h2]
    try grind
  · have e1 : ((a.natAbs : Nat) : Int) = a := by omega
    have e2 : ((b.natAbs : Nat) : Int) = b := by omega
    rw [e1, e2]
    simp [Int.not_lt.2 h1, Int.not_lt.2 h2]

set_option maxRecDepth 100000 in
set_option maxHeartbeats 1000000 in
theorem product_c (w : World) (a b : Int) (ha : -9223372036854775808 ≤ a ∧ a ≤ 9223372036854775807) (hb : -9223372036854775808 ≤ b ∧ b ≤ 9223372036854775807) :
    Calls Tryz.prog 235 #[.int .i64 a, .int .i64 b] w fun e w' => e = .returned (wideV (a * b)) ∧ Below w.heap.size w w' := by
  obtain ⟨s1, s2⟩ := prod_sign a b
  have HS1 := hid (fun X => size_c X a ha)
  have HS2 := hid (fun X => size_c X b hb)
  obtain ⟨x, hx⟩ : ∃ x, x = a.natAbs := ⟨_, rfl⟩
  obtain ⟨y, hy⟩ : ∃ x, x = b.natAbs := ⟨_, rfl⟩
  rw [← hx, ← hy] at s1 s2
  rw [← hx] at HS1
  rw [← hy] at HS2
  have hx1 : x ≤ 9223372036854775808 := by omega
  have hy1 : y ≤ 9223372036854775808 := by omega
  have hp : x * y ≤ 9223372036854775808 * 9223372036854775808 := Nat.mul_le_mul hx1 hy1
  have HM := hid (fun X => mul64_c x y (by omega) (by omega) X)
  obtain ⟨P, hP⟩ : ∃ P, P = x * y := ⟨_, rfl⟩
  rw [← hP] at s1 s2 hp HM
  obtain ⟨H, hH⟩ : ∃ H : Int, H = ((P / 18446744073709551616 : Nat) : Int) := ⟨_, rfl⟩
  obtain ⟨Lo, hLo⟩ : ∃ H : Int, H = ((P % 18446744073709551616 : Nat) : Int) := ⟨_, rfl⟩
  rw [← hH, ← hLo] at HM
  have h0 : 0 ≤ H := by omega
  have h1 : H ≤ 4611686018427387904 := by omega
  have l0 : 0 ≤ Lo := by omega
  have l1 : Lo < 18446744073709551616 := by omega
  have hw : IntKind.i64.wrap H = H := IntWalk.i64_in _ (by omega)
  have heq : H * 18446744073709551616 + Lo = (P : Int) := by omega
  have HO := hid (fun X => opp_c X H Lo h0 h1 l0 l1)
  rw [heq] at HO
  have hwv : wideV (P : Int) = .agg #[.int .i64 H, .int .u64 Lo] := by
    unfold wideV
    rw [show (P : Int) / 18446744073709551616 = H by omega, show (P : Int) % 18446744073709551616 = Lo by omega]
  by_cases ha0 : a < 0 <;> by_cases hb0 : b < 0
  · skip
    have hd1 : decide (a < 0) = true := by simp [ha0]
    have hd2 : decide (b < 0) = true := by simp [hb0]
    have e := s2 (by simp [ha0, hb0])
    rw [e, hwv]
    clear s1 s2 hx hy hP hH hLo heq hwv e HO hp
    go_enter Tryz.func235, Tryz.ntmps235
    go_wp2_with (go_at_call 210; refine (HS1.out _).mono ?_; rintro e w1 ⟨rfl, rfl⟩; refine Stop.of ?_)
    refine Stop.go ?_
    go_wp2_with (go_at_call 210; refine (HS2.out _).mono ?_; rintro e w1 ⟨rfl, rfl⟩; refine Stop.of ?_)
    refine Stop.go ?_
    go_wp2_with (go_at_call 209; refine (HM.out _).mono ?_; rintro e w1 ⟨rfl, rfl⟩; refine Stop.of ?_)
    refine Stop.go ?_
    go_wp2
    simp [bodyPost, results, Tryz.results235, go_sem]
    exact ((Below.refl _ _).alloc (Nat.le_refl _) _).alloc (by simp) _
  · skip
    have hd1 : decide (a < 0) = true := by simp [ha0]
    have hd2 : decide (b < 0) = false := by simp [hb0]
    have e := s1 (by simp [ha0, hb0])
    rw [e]
    obtain ⟨R1, hR1⟩ : ∃ R, R = (-(P : Int)) / 18446744073709551616 := ⟨_, rfl⟩
    obtain ⟨R2, hR2⟩ : ∃ R, R = (-(P : Int)) % 18446744073709551616 := ⟨_, rfl⟩
    have hwn : wideV (-(P : Int)) = .agg #[.int .i64 R1, .int .u64 R2] := by unfold wideV; rw [hR1, hR2]
    rw [hwn] at HO ⊢
    clear s1 s2 hx hy hP hH hLo heq hwv e hp hR1 hR2 hwn
    go_enter Tryz.func235, Tryz.ntmps235
    go_wp2_with (go_at_call 210; refine (HS1.out _).mono ?_; rintro e w1 ⟨rfl, rfl⟩; refine Stop.of ?_)
    refine Stop.go ?_
    go_wp2_with (go_at_call 210; refine (HS2.out _).mono ?_; rintro e w1 ⟨rfl, rfl⟩; refine Stop.of ?_)
    refine Stop.go ?_
    go_wp2_with (go_at_call 209; refine (HM.out _).mono ?_; rintro e w1 ⟨rfl, rfl⟩; refine Stop.of ?_)
    refine Stop.go ?_
    go_wp2_with (go_at_call 149; refine (HO.out _).mono ?_; rintro e w2 ⟨rfl, hb2⟩; refine Stop.of ?_)
    refine Stop.go ?_
    have hba : Below w.heap.size w ((w.alloc (.cells #[.int .i64 0, .int .u64 0] 100)).alloc (.cells #[.int .i64 H, .int .u64 Lo] 100)) := ((Below.refl _ _).alloc (Nat.le_refl _) _).alloc (by simp) _
    have hbx := chain hba hb2
    have c0 : w2.cell? ⟨w.heap.size, 0, none⟩ = some (.int .i64 0) := ((bcell hb2).1 w.heap.size 0 (by simp; omega)).trans (by rw [World.cell?_alloc_past _ _ _ (by simp), World.cell?_alloc_at _ _ _ _ rfl]; rfl)
    have c1 : w2.cell? ⟨w.heap.size, 1, none⟩ = some (.int .u64 0) := ((bcell hb2).1 w.heap.size 1 (by simp; omega)).trans (by rw [World.cell?_alloc_past _ _ _ (by simp), World.cell?_alloc_at _ _ _ _ rfl]; rfl)
    have hlt2 : w.heap.size < w2.heap.size := by have := hb2.size; simp at this; omega
    have f0 : w2.frozen? ⟨w.heap.size, 0, none⟩ = false := ((bcell hb2).2 w.heap.size 0 (by simp; omega)).trans (by simp [go_sem])
    have f1 : w2.frozen? ⟨w.heap.size, 1, none⟩ = false := ((bcell hb2).2 w.heap.size 1 (by simp; omega)).trans (by simp [go_sem])
    go_wp2
    simp [bodyPost, results, Tryz.results235, go_sem, c0, c1, f0, f1, hlt2]
    exact below_set (below_set hbx (Nat.le_refl _) 0 _) (Nat.le_refl _) 1 _
  · skip
    have hd1 : decide (a < 0) = false := by simp [ha0]
    have hd2 : decide (b < 0) = true := by simp [hb0]
    have e := s1 (by simp [ha0, hb0])
    rw [e]
    obtain ⟨R1, hR1⟩ : ∃ R, R = (-(P : Int)) / 18446744073709551616 := ⟨_, rfl⟩
    obtain ⟨R2, hR2⟩ : ∃ R, R = (-(P : Int)) % 18446744073709551616 := ⟨_, rfl⟩
    have hwn : wideV (-(P : Int)) = .agg #[.int .i64 R1, .int .u64 R2] := by unfold wideV; rw [hR1, hR2]
    rw [hwn] at HO ⊢
    clear s1 s2 hx hy hP hH hLo heq hwv e hp hR1 hR2 hwn
    go_enter Tryz.func235, Tryz.ntmps235
    go_wp2_with (go_at_call 210; refine (HS1.out _).mono ?_; rintro e w1 ⟨rfl, rfl⟩; refine Stop.of ?_)
    refine Stop.go ?_
    go_wp2_with (go_at_call 210; refine (HS2.out _).mono ?_; rintro e w1 ⟨rfl, rfl⟩; refine Stop.of ?_)
    refine Stop.go ?_
    go_wp2_with (go_at_call 209; refine (HM.out _).mono ?_; rintro e w1 ⟨rfl, rfl⟩; refine Stop.of ?_)
    refine Stop.go ?_
    go_wp2_with (go_at_call 149; refine (HO.out _).mono ?_; rintro e w2 ⟨rfl, hb2⟩; refine Stop.of ?_)
    refine Stop.go ?_
    have hba : Below w.heap.size w ((w.alloc (.cells #[.int .i64 0, .int .u64 0] 100)).alloc (.cells #[.int .i64 H, .int .u64 Lo] 100)) := ((Below.refl _ _).alloc (Nat.le_refl _) _).alloc (by simp) _
    have hbx := chain hba hb2
    have c0 : w2.cell? ⟨w.heap.size, 0, none⟩ = some (.int .i64 0) := ((bcell hb2).1 w.heap.size 0 (by simp; omega)).trans (by rw [World.cell?_alloc_past _ _ _ (by simp), World.cell?_alloc_at _ _ _ _ rfl]; rfl)
    have c1 : w2.cell? ⟨w.heap.size, 1, none⟩ = some (.int .u64 0) := ((bcell hb2).1 w.heap.size 1 (by simp; omega)).trans (by rw [World.cell?_alloc_past _ _ _ (by simp), World.cell?_alloc_at _ _ _ _ rfl]; rfl)
    have hlt2 : w.heap.size < w2.heap.size := by have := hb2.size; simp at this; omega
    have f0 : w2.frozen? ⟨w.heap.size, 0, none⟩ = false := ((bcell hb2).2 w.heap.size 0 (by simp; omega)).trans (by simp [go_sem])
    have f1 : w2.frozen? ⟨w.heap.size, 1, none⟩ = false := ((bcell hb2).2 w.heap.size 1 (by simp; omega)).trans (by simp [go_sem])
    go_wp2
    simp [bodyPost, results, Tryz.results235, go_sem, c0, c1, f0, f1, hlt2]
    exact below_set (below_set hbx (Nat.le_refl _) 0 _) (Nat.le_refl _) 1 _
  · skip
    have hd1 : decide (a < 0) = false := by simp [ha0]
    have hd2 : decide (b < 0) = false := by simp [hb0]
    have e := s2 (by simp [ha0, hb0])
    rw [e, hwv]
    clear s1 s2 hx hy hP hH hLo heq hwv e HO hp
    go_enter Tryz.func235, Tryz.ntmps235
    go_wp2_with (go_at_call 210; refine (HS1.out _).mono ?_; rintro e w1 ⟨rfl, rfl⟩; refine Stop.of ?_)
    refine Stop.go ?_
    go_wp2_with (go_at_call 210; refine (HS2.out _).mono ?_; rintro e w1 ⟨rfl, rfl⟩; refine Stop.of ?_)
    refine Stop.go ?_
    go_wp2_with (go_at_call 209; refine (HM.out _).mono ?_; rintro e w1 ⟨rfl, rfl⟩; refine Stop.of ?_)
    refine Stop.go ?_
    go_wp2
    simp [bodyPost, results, Tryz.results235, go_sem]
    exact ((Below.refl _ _).alloc (Nat.le_refl _) _).alloc (by simp) _
end

section
open Go.RowKit
set_option linter.unusedVariables false
set_option linter.unusedSimpArgs false

def dF (d : Int) : Int := if d < 1 then 1 else d
def cmpR (an ad bn bd : Int) : Int := cmpI (an * dF bd) (bn * dF ad)
def F64 (n : Int) : Prop := -9223372036854775808 ≤ n ∧ n ≤ 9223372036854775807

set_option maxRecDepth 100000 in
set_option maxHeartbeats 1000000 in
theorem fcompare_c (w : World) (an ad bn bd : Int) (h1 : F64 an) (h2 : F64 ad) (h3 : F64 bn) (h4 : F64 bd) :
    Calls Tryz.prog 198 #[.agg #[.int .i64 an, .int .i64 ad], .agg #[.int .i64 bn, .int .i64 bd]] w fun e w' => e = .returned (.int .i64 (cmpR an ad bn bd)) ∧ Below w.heap.size w w' := by
  obtain ⟨h1a, h1b⟩ := h1
  obtain ⟨h2a, h2b⟩ := h2
  obtain ⟨h3a, h3b⟩ := h3
  obtain ⟨h4a, h4b⟩ := h4
  unfold cmpR dF
  by_cases c1 : ad < 1 <;> by_cases c2 : bd < 1
  · rw [if_pos c1, if_pos c2]
    obtain ⟨C, hC⟩ : ∃ C, C = cmpI (an * 1) (bn * 1) := ⟨_, rfl⟩
    rw [← hC]
    have HCC := hid hC
    obtain ⟨wz, hwz⟩ : ∃ wz, wz = (w.alloc (.cells #[.int .i64 an, .int .i64 1] 29)).alloc (.cells #[.int .i64 bn, .int .i64 1] 29) := ⟨_, rfl⟩
    have hbz : Below w.heap.size w wz := by rw [hwz]; exact ((Below.refl _ _).alloc (Nat.le_refl _) _).alloc (by simp) _
    have hsz : wz.heap.size = w.heap.size + 2 := by rw [hwz]; simp
    have l0 := lift_cell (W := wz) (b := w.heap.size) (o := 0) (by omega) (show wz.cell? ⟨w.heap.size, 0, none⟩ = some (.int .i64 an) by rw [hwz, World.cell?_alloc_past _ _ _ (by simp), World.cell?_alloc_at _ _ _ _ rfl]; rfl)
    have l1 := lift_cell (W := wz) (b := w.heap.size) (o := 1) (by omega) (show wz.cell? ⟨w.heap.size, 1, none⟩ = some (.int .i64 1) by rw [hwz, World.cell?_alloc_past _ _ _ (by simp), World.cell?_alloc_at _ _ _ _ rfl]; rfl)
    have l2 := lift_cell (W := wz) (b := w.heap.size + 1) (o := 0) (by omega) (show wz.cell? ⟨w.heap.size + 1, 0, none⟩ = some (.int .i64 bn) by rw [hwz, World.cell?_alloc_at _ _ _ _ (by simp)]; rfl)
    have l3 := lift_cell (W := wz) (b := w.heap.size + 1) (o := 1) (by omega) (show wz.cell? ⟨w.heap.size + 1, 1, none⟩ = some (.int .i64 1) by rw [hwz, World.cell?_alloc_at _ _ _ _ (by simp)]; rfl)
    have HWZ := hid hwz
    have HBZ := hid hbz
    clear hC hwz hbz hsz
    go_enter Tryz.func198, Tryz.ntmps198
    go_wp2
    rw [← HWZ.out]
    refine region_lift (by kernel_rfl) (by kernel_rfl) ?_
    repeat (go_big_quiet_step (first
      | (go_at_call 235; exact lift_calls (product_c _ _ _ (by omega) (by omega)))
      | (go_at_call 207; exact lift_calls (wcompare_c _ _ _))))
    refine wpQuiet_nil ?_
    rintro _ ⟨X, rfl⟩
    have hfin := chain HBZ.out (lift_below wz X)
    go_wp2
    go_ret
    exact ⟨ret_int (by rw [HCC.out]; try simp), hfin⟩
  · rw [if_pos c1, if_neg c2]
    obtain ⟨C, hC⟩ : ∃ C, C = cmpI (an * bd) (bn * 1) := ⟨_, rfl⟩
    rw [← hC]
    have HCC := hid hC
    obtain ⟨wz, hwz⟩ : ∃ wz, wz = (w.alloc (.cells #[.int .i64 an, .int .i64 1] 29)).alloc (.cells #[.int .i64 bn, .int .i64 bd] 29) := ⟨_, rfl⟩
    have hbz : Below w.heap.size w wz := by rw [hwz]; exact ((Below.refl _ _).alloc (Nat.le_refl _) _).alloc (by simp) _
    have hsz : wz.heap.size = w.heap.size + 2 := by rw [hwz]; simp
    have l0 := lift_cell (W := wz) (b := w.heap.size) (o := 0) (by omega) (show wz.cell? ⟨w.heap.size, 0, none⟩ = some (.int .i64 an) by rw [hwz, World.cell?_alloc_past _ _ _ (by simp), World.cell?_alloc_at _ _ _ _ rfl]; rfl)
    have l1 := lift_cell (W := wz) (b := w.heap.size) (o := 1) (by omega) (show wz.cell? ⟨w.heap.size, 1, none⟩ = some (.int .i64 1) by rw [hwz, World.cell?_alloc_past _ _ _ (by simp), World.cell?_alloc_at _ _ _ _ rfl]; rfl)
    have l2 := lift_cell (W := wz) (b := w.heap.size + 1) (o := 0) (by omega) (show wz.cell? ⟨w.heap.size + 1, 0, none⟩ = some (.int .i64 bn) by rw [hwz, World.cell?_alloc_at _ _ _ _ (by simp)]; rfl)
    have l3 := lift_cell (W := wz) (b := w.heap.size + 1) (o := 1) (by omega) (show wz.cell? ⟨w.heap.size + 1, 1, none⟩ = some (.int .i64 bd) by rw [hwz, World.cell?_alloc_at _ _ _ _ (by simp)]; rfl)
    have HWZ := hid hwz
    have HBZ := hid hbz
    clear hC hwz hbz hsz
    go_enter Tryz.func198, Tryz.ntmps198
    go_wp2
    rw [← HWZ.out]
    refine region_lift (by kernel_rfl) (by kernel_rfl) ?_
    repeat (go_big_quiet_step (first
      | (go_at_call 235; exact lift_calls (product_c _ _ _ (by omega) (by omega)))
      | (go_at_call 207; exact lift_calls (wcompare_c _ _ _))))
    refine wpQuiet_nil ?_
    rintro _ ⟨X, rfl⟩
    have hfin := chain HBZ.out (lift_below wz X)
    go_wp2
    go_ret
    exact ⟨ret_int (by rw [HCC.out]; try simp), hfin⟩
  · rw [if_neg c1, if_pos c2]
    obtain ⟨C, hC⟩ : ∃ C, C = cmpI (an * 1) (bn * ad) := ⟨_, rfl⟩
    rw [← hC]
    have HCC := hid hC
    obtain ⟨wz, hwz⟩ : ∃ wz, wz = (w.alloc (.cells #[.int .i64 an, .int .i64 ad] 29)).alloc (.cells #[.int .i64 bn, .int .i64 1] 29) := ⟨_, rfl⟩
    have hbz : Below w.heap.size w wz := by rw [hwz]; exact ((Below.refl _ _).alloc (Nat.le_refl _) _).alloc (by simp) _
    have hsz : wz.heap.size = w.heap.size + 2 := by rw [hwz]; simp
    have l0 := lift_cell (W := wz) (b := w.heap.size) (o := 0) (by omega) (show wz.cell? ⟨w.heap.size, 0, none⟩ = some (.int .i64 an) by rw [hwz, World.cell?_alloc_past _ _ _ (by simp), World.cell?_alloc_at _ _ _ _ rfl]; rfl)
    have l1 := lift_cell (W := wz) (b := w.heap.size) (o := 1) (by omega) (show wz.cell? ⟨w.heap.size, 1, none⟩ = some (.int .i64 ad) by rw [hwz, World.cell?_alloc_past _ _ _ (by simp), World.cell?_alloc_at _ _ _ _ rfl]; rfl)
    have l2 := lift_cell (W := wz) (b := w.heap.size + 1) (o := 0) (by omega) (show wz.cell? ⟨w.heap.size + 1, 0, none⟩ = some (.int .i64 bn) by rw [hwz, World.cell?_alloc_at _ _ _ _ (by simp)]; rfl)
    have l3 := lift_cell (W := wz) (b := w.heap.size + 1) (o := 1) (by omega) (show wz.cell? ⟨w.heap.size + 1, 1, none⟩ = some (.int .i64 1) by rw [hwz, World.cell?_alloc_at _ _ _ _ (by simp)]; rfl)
    have HWZ := hid hwz
    have HBZ := hid hbz
    clear hC hwz hbz hsz
    go_enter Tryz.func198, Tryz.ntmps198
    go_wp2
    rw [← HWZ.out]
    refine region_lift (by kernel_rfl) (by kernel_rfl) ?_
    repeat (go_big_quiet_step (first
      | (go_at_call 235; exact lift_calls (product_c _ _ _ (by omega) (by omega)))
      | (go_at_call 207; exact lift_calls (wcompare_c _ _ _))))
    refine wpQuiet_nil ?_
    rintro _ ⟨X, rfl⟩
    have hfin := chain HBZ.out (lift_below wz X)
    go_wp2
    go_ret
    exact ⟨ret_int (by rw [HCC.out]; try simp), hfin⟩
  · rw [if_neg c1, if_neg c2]
    obtain ⟨C, hC⟩ : ∃ C, C = cmpI (an * bd) (bn * ad) := ⟨_, rfl⟩
    rw [← hC]
    have HCC := hid hC
    obtain ⟨wz, hwz⟩ : ∃ wz, wz = (w.alloc (.cells #[.int .i64 an, .int .i64 ad] 29)).alloc (.cells #[.int .i64 bn, .int .i64 bd] 29) := ⟨_, rfl⟩
    have hbz : Below w.heap.size w wz := by rw [hwz]; exact ((Below.refl _ _).alloc (Nat.le_refl _) _).alloc (by simp) _
    have hsz : wz.heap.size = w.heap.size + 2 := by rw [hwz]; simp
    have l0 := lift_cell (W := wz) (b := w.heap.size) (o := 0) (by omega) (show wz.cell? ⟨w.heap.size, 0, none⟩ = some (.int .i64 an) by rw [hwz, World.cell?_alloc_past _ _ _ (by simp), World.cell?_alloc_at _ _ _ _ rfl]; rfl)
    have l1 := lift_cell (W := wz) (b := w.heap.size) (o := 1) (by omega) (show wz.cell? ⟨w.heap.size, 1, none⟩ = some (.int .i64 ad) by rw [hwz, World.cell?_alloc_past _ _ _ (by simp), World.cell?_alloc_at _ _ _ _ rfl]; rfl)
    have l2 := lift_cell (W := wz) (b := w.heap.size + 1) (o := 0) (by omega) (show wz.cell? ⟨w.heap.size + 1, 0, none⟩ = some (.int .i64 bn) by rw [hwz, World.cell?_alloc_at _ _ _ _ (by simp)]; rfl)
    have l3 := lift_cell (W := wz) (b := w.heap.size + 1) (o := 1) (by omega) (show wz.cell? ⟨w.heap.size + 1, 1, none⟩ = some (.int .i64 bd) by rw [hwz, World.cell?_alloc_at _ _ _ _ (by simp)]; rfl)
    have HWZ := hid hwz
    have HBZ := hid hbz
    clear hC hwz hbz hsz
    go_enter Tryz.func198, Tryz.ntmps198
    go_wp2
    rw [← HWZ.out]
    refine region_lift (by kernel_rfl) (by kernel_rfl) ?_
    repeat (go_big_quiet_step (first
      | (go_at_call 235; exact lift_calls (product_c _ _ _ (by omega) (by omega)))
      | (go_at_call 207; exact lift_calls (wcompare_c _ _ _))))
    refine wpQuiet_nil ?_
    rintro _ ⟨X, rfl⟩
    have hfin := chain HBZ.out (lift_below wz X)
    go_wp2
    go_ret
    exact ⟨ret_int (by rw [HCC.out]; try simp), hfin⟩

theorem lcompare_c (w : World) (an ad bn bd : Int) (h1 : F64 an) (h2 : F64 ad) (h3 : F64 bn) (h4 : F64 bd) :
    Calls Tryz.prog 136 #[.agg #[.int .i64 an, .int .i64 ad], .agg #[.int .i64 bn, .int .i64 bd]] w fun e w' => e = .returned (.int .i64 (cmpR an ad bn bd)) ∧ Below w.heap.size w w' := by
  have HC := hid (fun X => fcompare_c X an ad bn bd h1 h2 h3 h4)
  obtain ⟨C, hC⟩ : ∃ C, C = cmpR an ad bn bd := ⟨_, rfl⟩
  rw [← hC] at HC ⊢
  have HBL := hid (show Below w.heap.size w ((w.alloc (.cells #[.int .i64 an, .int .i64 ad] 29)).alloc (.cells #[.int .i64 bn, .int .i64 bd] 29)) from ((Below.refl _ _).alloc (Nat.le_refl _) _).alloc (by simp) _)
  clear hC
  go_enter Tryz.func136, Tryz.ntmps136
  go_wp2_with (go_at_call 198; refine (HC.out _).mono ?_; rintro e w1 ⟨rfl, hb1⟩)
  go_ret
  exact ⟨rfl, chain HBL.out hb1⟩

end
end Go.Proofs.YtlffndehhhpgjaaGreat

namespace Go.Proofs.YtlffndehhhpgjaaGreat
open Go.RowKit
set_option linter.unusedVariables false
set_option linter.unusedSimpArgs false

def HeadV (W : World) (xs : List Value) (L : List (List Int)) : Prop :=
  xs.length = L.length ∧ ∀ j (hj : j < L.length), ∃ ra rn rc, xs[j]? = some (.slice ra rn rc) ∧ L[j].length = rn ∧ rn ≤ maxLen ∧ IntsAt W ra L[j]
theorem HeadV.nil (W : World) : HeadV W [] [] := ⟨rfl, fun j hj => by simp at hj⟩
theorem HeadV.below {W W' : World} {xs : List Value} {L : List (List Int)} (h : HeadV W xs L) (hb : Below W.heap.size W W') : HeadV W' xs L :=
  ⟨h.1, fun j hj => by obtain ⟨ra, rn, rc, h1, h2, h3, h4⟩ := h.2 j hj; exact ⟨ra, rn, rc, h1, h2, h3, h4.below hb⟩⟩
theorem HeadV.one {W : World} {ra : Option Addr} {rn rc : Nat} {l : List Int} (hn : l.length = rn) (hm : rn ≤ maxLen) (h : IntsAt W ra l) : HeadV W [.slice ra rn rc] [l] :=
  ⟨rfl, fun j hj => by
    obtain rfl : j = 0 := by simp at hj; omega
    exact ⟨ra, rn, rc, rfl, hn, hm, h⟩⟩
theorem HeadV.append {W : World} {xs ys : List Value} {L K : List (List Int)} (h : HeadV W xs L) (k : HeadV W ys K) : HeadV W (xs ++ ys) (L ++ K) := by
  refine ⟨by simp [h.1, k.1], fun j hj => ?_⟩
  by_cases e : j < L.length
  · obtain ⟨ra, rn, rc, h1, h2, h3, h4⟩ := h.2 j e
    refine ⟨ra, rn, rc, by rw [List.getElem?_append_left (by rw [h.1]; exact e)]; exact h1, ?_, h3, ?_⟩
    · rw [List.getElem_append_left e]; exact h2
    · rw [List.getElem_append_left e]; exact h4
  · have hj2 : j - L.length < K.length := by simp at hj; omega
    obtain ⟨ra, rn, rc, h1, h2, h3, h4⟩ := k.2 (j - L.length) hj2
    refine ⟨ra, rn, rc, by rw [List.getElem?_append_right (by rw [h.1]; omega), h.1]; exact h1, ?_, h3, ?_⟩
    · rw [List.getElem_append_right (by omega)]; exact h2
    · rw [List.getElem_append_right (by omega)]; exact h4
end Go.Proofs.YtlffndehhhpgjaaGreat
